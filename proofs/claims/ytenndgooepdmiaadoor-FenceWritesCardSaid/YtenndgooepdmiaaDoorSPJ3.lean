/- Part of the proof: what the functions answer, part 3 (SRead3, SAsk, SFence9, LLive20, LFence1, LFence2, SShort, LFence3, LFence4). No conditions. -/
import Derived.Test.YtenndgooepdmiaaDoorSPJ2
import Derived.Test.YtenndgooepdmiaaDoorSPJ1
import Derived.Test.YtenndgooepdmiaaDoorTabA
import Derived.Test.YtenndgooepdmiaaDoorAMJ4
import Derived.KernelRfl
section
namespace Go.Proofs.YtenndgooepdmiaaDoor
open Go Go.AM Go.Proofs
set_option maxRecDepth 20000
set_option maxHeartbeats 1000000
set_option linter.unusedSimpArgs false
set_option linter.unusedVariables false
def rlL (n bytes : Nat) (z : List GV) : IC :=
 .seq (.reg [0, 2, 8, 23, 24, 25] [⟨(some 25), none, .bin .lss (.t 24) (.t 23)⟩]) <|
 .seq (.cond [0, 2, 8, 23, 24] (.t 25)
   (.skip)
   (.exit 0)) <|
 .seq (.block [0, 2, 8, 23, 24] 1 <|
  .seq (.seq (.reg [0, 2, 8, 23, 24, 29] [⟨(some 26), none, .mov (.t 0)⟩,
      ⟨(some 27), none, .nilchk (.t 26)⟩,
      ⟨(some 28), none, .faddr 1 (.t 27)⟩,
      ⟨(some 29), none, .load false 1 (.t 28)⟩]) <|
   .cond [0, 2, 8, 23, 24] (.t 29)
    (.seq (.reg [6] [⟨(some 6), none, .nres n⟩]) <|
     .ret)
    (.skip)) <|
  .reg [0, 2, 8, 23, 24] [⟨(some 30), none, .mov (.t 8)⟩,
    ⟨(some 31), none, .mov (.t 2)⟩,
    ⟨(some 32), none, .call (.t 31) []⟩,
    ⟨(some 33), none, .bslice n 1 z [(0, n, (.t 32))]⟩,
    ⟨(some 34), none, .app n bytes (.t 30) (.t 33)⟩,
    ⟨(some 8), none, .mov (.t 34)⟩]) <|
 .reg [0, 2, 8, 23, 24] [⟨(some 35), none, .bin .add (.t 24) (.c (.g (.int .i64 1)))⟩,
   ⟨(some 24), none, .mov (.t 35)⟩]
def rlF (n bytes : Nat) (z : List GV) : IFunc := ⟨3, 37, [.tmp 6], false,
 .seq (.reg [0, 1, 2] [⟨(some 6), none, .nres n⟩]) <|
 .seq (.reg [0, 1, 2, 7] [⟨(some 9), none, .mov (.t 0)⟩,
    ⟨(some 10), none, .call (.c (.g (.fn 45))) [(.t 9)]⟩,
    ⟨(some 7), none, .mov (.t 10)⟩]) <|
 .seq (.reg [0, 2, 7] [⟨(some 11), none, .mov (.t 0)⟩,
    ⟨(some 12), none, .mov (.t 0)⟩,
    ⟨(some 13), none, .nilchk (.t 12)⟩,
    ⟨(some 14), none, .faddr 1 (.t 13)⟩,
    ⟨(some 15), none, .load false 1 (.t 14)⟩,
    ⟨(some 16), none, .mov (.t 15)⟩,
    ⟨(some 17), (some (16, false)), .mov (.t 7)⟩,
    ⟨(some 18), (some (16, false)), .mov (.t 1)⟩,
    ⟨(some 19), (some (16, false)), .bin .gtr (.t 17) (.t 18)⟩,
    ⟨(some 20), none, .pick (.t 16) (.c (.g (.bool true))) (.t 19)⟩,
    ⟨(some 21), none, .nilchk (.t 11)⟩,
    ⟨(some 22), none, .faddr 1 (.t 21)⟩,
    ⟨none, none, .store 1 (.t 22) (.t 20)⟩]) <|
 .seq (.reg [0, 2, 7, 8] [⟨(some 8), none, .nres n⟩]) <|
 .seq (.seq (.reg [0, 2, 8, 23, 24] [⟨(some 23), none, .mov (.t 7)⟩,
     ⟨(some 24), none, .mov (.c (.g (.int .i64 0)))⟩]) <|
  .block [8] 0 <|
  .loop [0, 2, 8, 23, 24] [] (rlL n bytes z)) <|
 .seq (.reg [6] [⟨(some 36), none, .mov (.t 8)⟩,
    ⟨(some 6), none, .mov (.t 36)⟩]) <|
 .ret⟩
section
variable {α : Type} {c : α → List GV} {it : RS → α × RS} {n bytes : Nat} {z : List GV} {g p : Nat}
def stL (c : α → List GV) (n g p kk : Nat) (H : List Blk) (out : List α) (st : RS) : St :=
  ⟨[(0, .ptr p 0), (2, .bv g [.ptr p 0]), (8, .ms (H.length + 1) (out.length + 1) n 0 out.length), (23, I kk), (24, I out.length)], [(p, rC st)], [.rows n 1 [], .rows n (out.length + 1) (out.map c)]⟩
def resL (c : α → List GV) (it : RS → α × RS) (n g p kk : Nat) (H : List Blk) : Nat → List α → RS → Ex × St
  | 0, out, st => (.exit 0, ⟨[(0, .ptr p 0), (2, .bv g [.ptr p 0]), (8, .ms (H.length + 1) (out.length + 1) n 0 out.length), (23, I kk), (24, I out.length), (25, B false)], [(p, rC st)], [.rows n 1 [], .rows n (out.length + 1) (out.map c)]⟩)
  | k + 1, out, st => if st.2 = true then (.ret, ⟨[(6, .ms (H.length + 2) 1 n 0 0)], [(p, rC st)], [.rows n 1 [], .rows n (out.length + 1) (out.map c), .rows n 1 []]⟩) else resL c it n g p kk H k (out ++ [(it st).1]) (it st).2
theorem rl_loop {H : List Blk} (hpl : p < H.length) (hc : ∀ x, (c x).length = n) (hz : z.length = n) (hb : bytes ≤ 1000)
    (hone : ∀ (H : List Blk) (st : RS), H[p]? = some (rC st) → st.1.length ≤ 9223372036854775807 → EvF tab g [.ptr p 0] H = some ⟨A (c (it st).1), [(p, rC (it st).2)], []⟩) (hlen : ∀ st, (it st).2.1.length ≤ st.1.length) (kk : Nat) (hk63 : kk ≤ 9223372036854775807) :
    ∀ (d : Nat) (out : List α) (st : RS), out.length + d = kk → (st.2 = true ∨ kk ≤ 100) → st.1.length ≤ 9223372036854775807 →
      loopE (EvF tab) H (rlL n bytes z) [0, 2, 8, 23, 24] (stL c n g p kk H out st) = some (resL c it n g p kk H d out st) := by
  intro d
  induction d with
  | zero =>
    intro out st h1 h2 h3
    refine loopE_out _ _ _ _ _ _ (by simp [resL]) ?_
    simp only [resL]
    unfold stL
    delta rlL
    simp -implicitDefEqProofs [show ¬ (out.length : Int) < (kk : Int) by omega, show ¬ out.length < kk by omega]
  | succ d ih =>
    intro out st h1 h2 h3
    have hlt : (out.length : Int) < (kk : Int) := by omega
    have hlt' : out.length < kk := by omega
    by_cases hw : st.2 = true
    · refine loopE_out _ _ _ _ _ _ (by simp [resL, hw]) ?_
      simp only [resL, if_pos hw]
      unfold stL rC
      rw [hw]
      delta rlL
      simp -implicitDefEqProofs [hlt, hlt', hpl, getB_old, orB]
    · have hw' : st.2 = false := by simpa using hw
      have hk := h2.resolve_left hw
      have ho := hone (H.set p (rC st) ++ [.rows n 1 [], .rows n (out.length + 1) (out.map c)]) st (rC_set2 hpl st _) h3
      have e1 : IntKind.i64.wrap ((out.length : Int) + 1) = (out.length : Int) + 1 := wrap_i64 (by omega) (by omega)
      have hstep : kpN [0, 2, 8, 23, 24] (evCode (EvF tab) H (rlL n bytes z) (stL c n g p kk H out st)) = some (.normal, stL c n g p kk H (out ++ [(it st).1]) (it st).2) := by
        have hcl := hc (it st).1
        have hr1 : out.length + 1 ≤ 140737488355328 := by omega
        have hr2 : (out.length + 1) * bytes ≤ 140737488355328 := by
          have := Nat.mul_le_mul (show out.length + 1 ≤ 101 by omega) hb
          omega
        have hfl : (List.replicate 1 (z.map AV.g)).flatten = z.map AV.g := by simp
        have hch : chunk n 1 (c (it st).1) = [c (it st).1] := by simp [chunk, List.take_of_length_le (Nat.le_of_eq hcl)]
        have hgr : grounds (List.map AV.g (c (it st).1)) = some (c (it st).1) := by
          generalize c (it st).1 = l
          induction l with
          | nil => rfl
          | cons x l ih => simp [grounds, ih]
        have hcm : (List.map AV.g (c (it st).1)).length = n := by simp [hcl]
        unfold stL
        delta rlL
        generalize it st = x at ho hcl hch hgr hcm ⊢
        obtain ⟨v, s'⟩ := x
        simp only at ho hcl hch hgr hcm ⊢
        have hst : st = (st.1, false) := by rw [← hw']
        have hrC : rC st = .cells [T st.1, B false] := by rw [← hw']; rfl
        have hdz : List.drop n (List.map AV.g z) = [] := by rw [List.drop_eq_nil_iff]; simp [hz]
        rw [hrC] at ho
        simp only [A] at ho
        have htk : List.take out.length (List.map c out) = List.map c out := List.take_of_length_le (by simp)
        simp -implicitDefEqProofs [-grounds, ho, hlt, hlt', hpl, getB_old, setB_old, orB, updM, hrC, A, fillA, hcm, hcl, hz, hdz, hgr, hch, appV, room, hr1, hr2, e1, htk, Nat.not_succ_le_self]
      rw [loopE_kp _ _ _ _ _ _ hstep]
      simp only [resL, if_neg hw]
      have := hlen st
      exact ih _ _ (by simp; omega) (.inr hk) (by omega)
theorem rl_end {H : List Blk} (hpl : p < H.length) (kk : Nat) : ∀ (d : Nat) (out : List α) (st : RS),
      fnEnd H [.tmp 6] false (sk (bk [8] 0 (some (resL c it n g p kk H d out st))) fun s => evCode (EvF tab) H (.seq (.reg [6] [⟨(some 36), none, .mov (.t 8)⟩, ⟨(some 6), none, .mov (.t 36)⟩]) .ret) s) =
        some ⟨.g (Sl.g n c (slN (rdL it d out st).1)), [(p, rC (rdL it d out st).2)], []⟩ := by
  intro d
  induction d with
  | zero =>
    intro out st
    simp only [resL, rdL]
    have htk : List.take out.length (List.map c out) = List.map c out := List.take_of_length_le (by simp)
    cases out with
    | nil => simp -implicitDefEqProofs [slN, hpl]
    | cons x l =>
      simp only [List.map_cons, List.length_cons] at htk
      simp -implicitDefEqProofs [slN, hpl, htk]
  | succ d ih =>
    intro out st
    simp only [resL, rdL]
    by_cases hw : st.2 = true
    · simp only [if_pos hw]
      simp -implicitDefEqProofs [slN, hpl]
    · simp only [if_neg hw]
      exact ih _ _
theorem list_ev {f : FuncId} (hF : tab.T f = some (rlF n bytes z)) {H : List Blk} {st : RS} (hp : H[p]? = some (rC st)) (hl : st.1.length ≤ 9223372036854775807) (hc : ∀ x, (c x).length = n) (hz : z.length = n) (hb : bytes ≤ 1000)
    (hone : ∀ (H : List Blk) (st : RS), H[p]? = some (rC st) → st.1.length ≤ 9223372036854775807 → EvF tab g [.ptr p 0] H = some ⟨A (c (it st).1), [(p, rC (it st).2)], []⟩) (hlen : ∀ st, (it st).2.1.length ≤ st.1.length) (most : Int) (hm : most ≤ 100) :
    EvF tab f [.ptr p 0, I most, .bv g [.ptr p 0]] H = some ⟨.g (Sl.g n c (slN (rdList most it st).1)), [(p, rC (rdList most it st).2)], []⟩ := by
  have hpl : p < H.length := (List.getElem?_eq_some_iff.1 hp).1
  have hn := rn_ev (rC_app hp [.rows n 1 []]) hl
  have hbd := rdN_bd st
  have hln := rdN_len st
  have hw := rl_loop (c := c) (it := it) (z := z) (g := g) hpl hc hz hb hone hlen (rdN st).1.toNat (by omega) (rdN st).1.toNat [] ((rdN st).2.1, (rdN st).2.2 || decide (most < (rdN st).1)) (by simp) (by
    simp only [Bool.or_eq_true, decide_eq_true_eq]
    by_cases h : most < (rdN st).1
    · exact .inl (.inr h)
    · exact .inr (by omega)) (by simp only; omega)
  have he := rl_end (c := c) (it := it) (n := n) (g := g) hpl (rdN st).1.toNat (rdN st).1.toNat [] ((rdN st).2.1, (rdN st).2.2 || decide (most < (rdN st).1))
  unfold rdList
  refine EvF_walk hF (by simp [rlF]) ?_
  have hcast : (((rdN st).1.toNat : Nat) : Int) = (rdN st).1 := by omega
  rw [← he]
  unfold stL at hw
  rw [hcast] at hw
  generalize resL c it n g p (rdN st).1.toNat H (rdN st).1.toNat [] ((rdN st).2.1, (rdN st).2.2 || decide (most < (rdN st).1)) = R at hw ⊢
  generalize rdN st = x at hn hw
  obtain ⟨k, s, wr⟩ := x
  simp only [rC, List.length_nil, List.map_nil, Nat.zero_add, show ((0 : Nat) : Int) = 0 from rfl] at hn hw
  cases wr <;> simp only [Bool.true_or, Bool.false_or] at hw <;> simp -implicitDefEqProofs [hn, hpl, getB_old, setB_old, orB, updM, hw]
end
end Go.Proofs.YtenndgooepdmiaaDoor
end
section
namespace Go.Proofs.YtenndgooepdmiaaDoor
open Go Go.AM Go.Proofs
set_option maxRecDepth 20000
set_option maxHeartbeats 2000000
set_option linter.unusedSimpArgs false
set_option linter.unusedVariables false
theorem rdL_le {α : Type} (it : RS → α × RS) : ∀ (k : Nat) (out : List α) (st : RS), (rdL it k out st).1.length ≤ out.length + k := by
  intro k
  induction k with
  | zero => intro out st; simp [rdL]
  | succ k ih =>
    intro out st
    unfold rdL
    split
    · simp
    · have := ih (out ++ [(it st).1]) (it st).2
      simp only [List.length_append, List.length_cons, List.length_nil] at this
      omega
theorem rdList_le {α : Type} (it : RS → α × RS) (most : Nat) (st : RS) : (rdList most it st).1.length ≤ most := by
  unfold rdList
  have hb := rdN_bd st
  by_cases h : (most : Int) < (rdN st).1
  · obtain ⟨k, hk⟩ : ∃ k : Nat, (rdN st).1.toNat = k + 1 := ⟨(rdN st).1.toNat - 1, by omega⟩
    rw [hk]; simp [rdL, h]
  · have := rdL_le it (rdN st).1.toNat [] ((rdN st).2.1, (rdN st).2.2 || decide ((most : Int) < (rdN st).1))
    simp only [List.length_nil] at this
    omega
theorem rdL_len {α : Type} {it : RS → α × RS} (hlen : ∀ st, (it st).2.1.length ≤ st.1.length) : ∀ (k : Nat) (out : List α) (st : RS), (rdL it k out st).2.1.length ≤ st.1.length := by
  intro k
  induction k with
  | zero => intro out st; simp [rdL]
  | succ k ih =>
    intro out st
    unfold rdL
    split
    · simp
    · exact Nat.le_trans (ih _ _) (hlen st)
theorem rdList_len {α : Type} {it : RS → α × RS} (hlen : ∀ st, (it st).2.1.length ≤ st.1.length) (most : Int) (st : RS) : (rdList most it st).2.1.length ≤ st.1.length := by
  unfold rdList
  exact Nat.le_trans (rdL_len hlen _ _ _) (rdN_len st)
theorem rdCmp_len (st : RS) : (rdCmp st).2.1.length ≤ st.1.length := by
  simp only [rdCmp, seqP]
  have l1 := rdT_len st
  have l2 := rdN_len (rdT st).2
  have l3 := rdN_len (rdN (rdT st).2).2
  have l4 := rdN_len (rdN (rdN (rdT st).2).2).2
  have l5 := rdT_len (rdN (rdN (rdN (rdT st).2).2).2).2
  omega
theorem rdMut_len (st : RS) : (rdMut st).2.1.length ≤ st.1.length := by
  simp only [rdMut, seqP]
  have l1 := rdB_len st
  have l2 := rdT_len (rdB st).2
  have l3 := rdT_len (rdT (rdB st).2).2
  have l4 := rdN_len (rdT (rdT (rdB st).2).2).2
  omega
theorem rdKV_len (st : RS) : (rdKV st).2.1.length ≤ st.1.length := by
  simp only [rdKV, seqP]
  have l1 := rdT_len st
  have l2 := rdT_len (rdT st).2
  have l3 := rdN_len (rdT (rdT st).2).2
  have l4 := rdN_len (rdN (rdT (rdT st).2).2).2
  have l5 := rdN_len (rdN (rdN (rdT (rdT st).2).2).2).2
  have l6 := rdN_len (rdN (rdN (rdN (rdT (rdT st).2).2).2).2).2
  omega
theorem rdEv_len (st : RS) : (rdEv st).2.1.length ≤ st.1.length := by
  simp only [rdEv, seqP]
  have l1 := rdN_len st
  have l2 := rdB_len (rdN st).2
  have l3 := rdKV_len (rdB (rdN st).2).2
  omega
def reqZ : Req := ⟨0, 0, 0, false, [], [], 0, 0, 0, 0, .nil, .nil, .nil⟩
def askedQ (s : Bs) : Req := if askedOk s = true then mkReq (rdReq (s, false)).1 else reqZ
theorem rC_own (H : List Blk) (a b c d : Blk) (st : RS) (o : List Blk) : (H ++ a :: b :: c :: d :: rC st :: o)[H.length + 4]? = some (rC st) := by
  rw [List.getElem?_append_right (by omega)]; simp
theorem Asked_ev (s : Bs) (hl : s.length ≤ 9223372036854775807) (H : List Blk) : EvF tab 32 [T s] H = some ⟨.tup [A (askedQ s).c, B (askedOk s)], [], []⟩ := by
  obtain ⟨ZC, eZ⟩ : ∃ b : Blk, b = .cells [I 0, I 0, I 0, B false, T [], T [], I 0, I 0, I 0, I 0, .ms H.length 1 5 0 0, .ms (H.length + 1) 1 4 0 0, .ms (H.length + 2) 1 4 0 0] := ⟨_, rfl⟩
  obtain ⟨v1, s1, e1⟩ : ∃ v' t', rdN (s, false) = (v', t') := ⟨(rdN (s, false)).1, (rdN (s, false)).2, rfl⟩
  have l1 := rdN_len (s, false); rw [e1] at l1; try simp only at l1
  have a1 := rn_ev (rC_own H (.rows 5 1 []) (.rows 4 1 []) (.rows 4 1 []) ZC (s, false) []) (by first | omega | (simp only; omega)); rw [e1] at a1; try simp only at a1
  obtain ⟨v2, s2, e2⟩ : ∃ v' t', rdN s1 = (v', t') := ⟨(rdN s1).1, (rdN s1).2, rfl⟩
  have l2 := rdN_len s1; rw [e2] at l2; try simp only at l2
  have a2 := rn_ev (rC_own H (.rows 5 1 []) (.rows 4 1 []) (.rows 4 1 []) ZC s1 []) (by first | omega | (simp only; omega)); rw [e2] at a2; try simp only at a2
  obtain ⟨v3, s3, e3⟩ : ∃ v' t', rdN s2 = (v', t') := ⟨(rdN s2).1, (rdN s2).2, rfl⟩
  have l3 := rdN_len s2; rw [e3] at l3; try simp only at l3
  have a3 := rn_ev (rC_own H (.rows 5 1 []) (.rows 4 1 []) (.rows 4 1 []) ZC s2 []) (by first | omega | (simp only; omega)); rw [e3] at a3; try simp only at a3
  obtain ⟨v4, s4, e4⟩ : ∃ v' t', rdN s3 = (v', t') := ⟨(rdN s3).1, (rdN s3).2, rfl⟩
  have l4 := rdN_len s3; rw [e4] at l4; try simp only at l4
  have a4 := rn_ev (rC_own H (.rows 5 1 []) (.rows 4 1 []) (.rows 4 1 []) ZC s3 []) (by first | omega | (simp only; omega)); rw [e4] at a4; try simp only at a4
  obtain ⟨v5, s5, e5⟩ : ∃ v' t', rdB s4 = (v', t') := ⟨(rdB s4).1, (rdB s4).2, rfl⟩
  have l5 := rdB_len s4; rw [e5] at l5; try simp only at l5
  have a5 := rb_ev (rC_own H (.rows 5 1 []) (.rows 4 1 []) (.rows 4 1 []) ZC s4 []) (by first | omega | (simp only; omega)); rw [e5] at a5; try simp only at a5
  obtain ⟨v6, s6, e6⟩ : ∃ v' t', rdT s5 = (v', t') := ⟨(rdT s5).1, (rdT s5).2, rfl⟩
  have l6 := rdT_len s5; rw [e6] at l6; try simp only at l6
  have a6 := rt_ev (rC_own H (.rows 5 1 []) (.rows 4 1 []) (.rows 4 1 []) ZC s5 []) (by first | omega | (simp only; omega)); rw [e6] at a6; try simp only at a6
  obtain ⟨v7, s7, e7⟩ : ∃ v' t', rdT s6 = (v', t') := ⟨(rdT s6).1, (rdT s6).2, rfl⟩
  have l7 := rdT_len s6; rw [e7] at l7; try simp only at l7
  have a7 := rt_ev (rC_own H (.rows 5 1 []) (.rows 4 1 []) (.rows 4 1 []) ZC s6 []) (by first | omega | (simp only; omega)); rw [e7] at a7; try simp only at a7
  obtain ⟨v8, s8, e8⟩ : ∃ v' t', rdN s7 = (v', t') := ⟨(rdN s7).1, (rdN s7).2, rfl⟩
  have l8 := rdN_len s7; rw [e8] at l8; try simp only at l8
  have a8 := rn_ev (rC_own H (.rows 5 1 []) (.rows 4 1 []) (.rows 4 1 []) ZC s7 []) (by first | omega | (simp only; omega)); rw [e8] at a8; try simp only at a8
  obtain ⟨v9, s9, e9⟩ : ∃ v' t', rdN s8 = (v', t') := ⟨(rdN s8).1, (rdN s8).2, rfl⟩
  have l9 := rdN_len s8; rw [e9] at l9; try simp only at l9
  have a9 := rn_ev (rC_own H (.rows 5 1 []) (.rows 4 1 []) (.rows 4 1 []) ZC s8 []) (by first | omega | (simp only; omega)); rw [e9] at a9; try simp only at a9
  obtain ⟨v10, s10, e10⟩ : ∃ v' t', rdN s9 = (v', t') := ⟨(rdN s9).1, (rdN s9).2, rfl⟩
  have l10 := rdN_len s9; rw [e10] at l10; try simp only at l10
  have a10 := rn_ev (rC_own H (.rows 5 1 []) (.rows 4 1 []) (.rows 4 1 []) ZC s9 []) (by first | omega | (simp only; omega)); rw [e10] at a10; try simp only at a10
  obtain ⟨v11, s11, e11⟩ : ∃ v' t', rdN s10 = (v', t') := ⟨(rdN s10).1, (rdN s10).2, rfl⟩
  have l11 := rdN_len s10; rw [e11] at l11; try simp only at l11
  have a11 := rn_ev (rC_own H (.rows 5 1 []) (.rows 4 1 []) (.rows 4 1 []) ZC s10 []) (by first | omega | (simp only; omega)); rw [e11] at a11; try simp only at a11
  obtain ⟨v12, s12, e12⟩ : ∃ v' t', rdList 4 rdCmp s11 = (v', t') := ⟨(rdList 4 rdCmp s11).1, (rdList 4 rdCmp s11).2, rfl⟩
  have l12 := rdList_len rdCmp_len 4 s11; rw [e12] at l12; try simp only at l12
  have k12 := rdList_le rdCmp 4 s11; rw [show ((4 : Nat) : Int) = 4 from rfl, e12] at k12; simp only at k12
  obtain ⟨v13, s13, e13⟩ : ∃ v' t', rdList 4 rdMut s12 = (v', t') := ⟨(rdList 4 rdMut s12).1, (rdList 4 rdMut s12).2, rfl⟩
  have l13 := rdList_len rdMut_len 4 s12; rw [e13] at l13; try simp only at l13
  have k13 := rdList_le rdMut 4 s12; rw [show ((4 : Nat) : Int) = 4 from rfl, e13] at k13; simp only at k13
  obtain ⟨v14, s14, e14⟩ : ∃ v' t', rdList 4 rdMut s13 = (v', t') := ⟨(rdList 4 rdMut s13).1, (rdList 4 rdMut s13).2, rfl⟩
  have l14 := rdList_len rdMut_len 4 s13; rw [e14] at l14; try simp only at l14
  have k14 := rdList_le rdMut 4 s13; rw [show ((4 : Nat) : Int) = 4 from rfl, e14] at k14; simp only at k14
  have a12 := list_ev (z := [.str [], .int .i64 0, .int .i64 0, .int .i64 0, .str []]) (g := 49) t48 (rC_own H (.rows 5 1 []) (.rows 4 1 []) (.rows 4 1 []) ZC s11 [.rows 5 1 [], .rows 4 1 [], .rows 4 1 [], .cells [I v2, I v3, I v4, B v5, T v6, T v7, I v8, I v9, I v10, I v11, .g .nsl, .g .nsl, .g .nsl]]) (by omega) (fun x => rfl) rfl (by omega) (fun H st h1 h2 => rcmp_ev h1 h2) rdCmp_len 4 (by omega)
  have a13 := list_ev (z := [.bool false, .str [], .str [], .int .i64 0]) (g := 51) t50 (rC_own H (.rows 5 1 []) (.rows 4 1 []) (.rows 4 1 []) ZC s12 [.rows 5 1 [], .rows 4 1 [], .rows 4 1 [], .cells [I v2, I v3, I v4, B v5, T v6, T v7, I v8, I v9, I v10, I v11, .g (Sl.g 5 Cmp.c (slN v12)), .g .nsl, .g .nsl]]) (by omega) (fun x => rfl) rfl (by omega) (fun H st h1 h2 => rmut_ev h1 h2) rdMut_len 4 (by omega)
  have a14 := list_ev (z := [.bool false, .str [], .str [], .int .i64 0]) (g := 51) t50 (rC_own H (.rows 5 1 []) (.rows 4 1 []) (.rows 4 1 []) ZC s13 [.rows 5 1 [], .rows 4 1 [], .rows 4 1 [], .cells [I v2, I v3, I v4, B v5, T v6, T v7, I v8, I v9, I v10, I v11, .g (Sl.g 5 Cmp.c (slN v12)), .g (Sl.g 4 Mut.c (slN v13)), .g .nsl]]) (by omega) (fun x => rfl) rfl (by omega) (fun H st h1 h2 => rmut_ev h1 h2) rdMut_len 4 (by omega)
  have a15 := rend_ev (rC_own H (.rows 5 1 []) (.rows 4 1 []) (.rows 4 1 []) ZC s14 [.rows 5 1 [], .rows 4 1 [], .rows 4 1 [], .cells [I v2, I v3, I v4, B v5, T v6, T v7, I v8, I v9, I v10, I v11, .g (Sl.g 5 Cmp.c (slN v12)), .g (Sl.g 4 Mut.c (slN v13)), .g (Sl.g 4 Mut.c (slN v14))]])
  rw [e12] at a12
  rw [e13] at a13
  rw [e14] at a14
  simp only at a12 a13 a14
  have eR : rdReq (s, false) = ((v1, v2, v3, v4, v5, v6, v7, v8, v9, v10, v11, v12, v13, v14), s14) := by simp only [rdReq, seqP, e1, e2, e3, e4, e5, e6, e7, e8, e9, e10, e11, e12, e13, e14]
  have a16 := fun H => MayAsk_ev (mkReq (v1, v2, v3, v4, v5, v6, v7, v8, v9, v10, v11, v12, v13, v14)) ⟨by simp only [mkReq, slN_l]; omega, by simp only [mkReq, slN_l]; omega, by simp only [mkReq, slN_l]; omega⟩ H
  have hO : askedOk s = (!s14.2 && (decide (s14.1 = []) && (decide (v1 = 1) && reqOk (mkReq (v1, v2, v3, v4, v5, v6, v7, v8, v9, v10, v11, v12, v13, v14))))) := by unfold askedOk; rw [eR]
  unfold askedQ
  rw [eR]
  simp only
  generalize reqOk (mkReq (v1, v2, v3, v4, v5, v6, v7, v8, v9, v10, v11, v12, v13, v14)) = bm at a16 hO
  subst eZ
  generalize hg1 : Sl.g 5 Cmp.c (slN v12) = G1 at a12 a13 a14 a15
  generalize hg2 : Sl.g 4 Mut.c (slN v13) = G2 at a13 a14 a15
  generalize hg3 : Sl.g 4 Mut.c (slN v14) = G3 at a14 a15
  simp only [A, mkReq, Req.c, Cmps.g, Muts.g, List.map_cons, List.map_nil, hg1, hg2, hg3] at a16
  refine EvF_walk t32 (by simp) ?_
  have hO2 : askedOk s = ((!s14.2 && decide (s14.1 = [])) && (decide (v1 = 1) && bm)) := by rw [hO, Bool.and_assoc]
  generalize (!s14.2 && decide (s14.1 = [])) = be at a15 hO2
  unfold rC at a1 a2 a3 a4 a5 a6 a7 a8 a9 a10 a11 a12 a13 a14 a15
  cases be
  · simp only [Bool.false_and] at hO2
    simp -implicitDefEqProofs [zres, hO2, reqZ, A, Req.c, a1, a2, a3, a4, a5, a6, a7, a8, a9, a10, a11, a12, a13, a14, a15]
  · by_cases h1 : v1 = 1
    · cases bm
      · simp only [Bool.true_and, Bool.and_false] at hO2
        simp -implicitDefEqProofs [zres, hO2, reqZ, A, Req.c, a1, a2, a3, a4, a5, a6, a7, a8, a9, a10, a11, a12, a13, a14, a15, a16, h1]
      · simp only [h1, decide_true, Bool.true_and] at hO2
        simp -implicitDefEqProofs [zres, hO2, A, Req.c, mkReq, Cmps.g, Muts.g, hg1, hg2, hg3, a1, a2, a3, a4, a5, a6, a7, a8, a9, a10, a11, a12, a13, a14, a15, a16, h1]
    · simp only [h1, decide_false, Bool.true_and, Bool.false_and] at hO2
      simp -implicitDefEqProofs [zres, hO2, reqZ, A, Req.c, a1, a2, a3, a4, a5, a6, a7, a8, a9, a10, a11, a12, a13, a14, a15, h1]
end Go.Proofs.YtenndgooepdmiaaDoor
end
section
namespace Go.Proofs.YtenndgooepdmiaaDoor
open Go Go.AM Go.Proofs
set_option maxRecDepth 20000
set_option maxHeartbeats 2000000
set_option linter.unusedSimpArgs false
set_option linter.unusedVariables false
def qAcc (q : Req) : Acc := ⟨q.who, q.token, q.value⟩
def doOk (s : Bs) : Bool := askedOk s && decide ((askedQ s).kind = 8)
def doR (r : Rsc) (s : Bs) : Rsc := if doOk s = true then wrR r (qAcc (askedQ s)) else r
def doE (r : Rsc) (s : Bs) : Int := if doOk s = true then wrE r (qAcc (askedQ s)) else 3
theorem Do_ev {H : List Blk} (hG : Glb H) (r : Rsc) (s : Bs) (hs : s.length ≤ 9223372036854775807) : EvF tab 16 [A r.c, T s] H = some ⟨.tup [A (doR r s).c, I (doE r s)], [], []⟩ := by
  have m1 := fun H => Asked_ev s hs H
  have m2 := fun o => Write_ev (hG.app o) r (qAcc (askedQ s))
  refine EvF_walk t16 (by simp) ?_
  unfold doR doE doOk
  generalize askedQ s = q at *
  generalize askedOk s = b at *
  obtain ⟨p1, p2, p3, p4, p5, p6, p7, p8, p9, p10, p11, p12, p13⟩ := q
  obtain ⟨rh, rv, rl⟩ := r
  simp only [A, Req.c, List.map_cons, List.map_nil, qAcc] at m1 m2 ⊢
  generalize wrE ⟨rh, rv, rl⟩ ⟨p2, p10, p6⟩ = e at *
  obtain ⟨w, hw⟩ : ∃ w, wrR ⟨rh, rv, rl⟩ ⟨p2, p10, p6⟩ = w := ⟨_, rfl⟩
  rw [hw] at m2 ⊢
  obtain ⟨wh, wv, wl⟩ := w
  simp only [Rsc.c, List.map_cons, List.map_nil] at m1 m2 ⊢
  cases b
  · simp -implicitDefEqProofs [m1, m2, zres]
  · by_cases hk : p1 = 8
    · simp -implicitDefEqProofs [m1, m2, zres, hk]
    · simp -implicitDefEqProofs [m1, m2, zres, hk]
theorem has_ev (s : Sl Int) (n : Int) (hl : s.l.length ≤ 9223372036854775807) (H : List Blk) : EvF tab 17 [.g (Ints.g s), I n] H = some ⟨B (decide (n ∈ s.l)), [], []⟩ := by
  have hw := loop_all0 (E := EvF tab) (h := H) (c := L17_0) (lv := [0, 1, 5]) (l := s.l) (fun x => !decide (x = n))
    (fun k => ⟨[(0, .g (Ints.g s)), (1, I n), (5, I k)], [], []⟩) (.exit 0, ⟨[(0, .g (Ints.g s)), (1, I n), (5, I s.l.length), (9, B false)], [], []⟩) (.ret, ⟨[(4, B true)], [], []⟩) (by simp) (by simp)
    (fun k x hk hx hy => ?_) (by delta L17_0; cases s <;> simp -implicitDefEqProofs)
  · refine EvF_walk t17 (by simp) ?_
    simp only [Int.ofNat_zero, Int.cast_ofNat_Int, Int.natCast_zero] at hw
    have hmem : (allP (fun x => !decide (x = n)) s.l = true) ↔ n ∉ s.l := by
      rw [allP_iff]
      constructor
      · intro h hn; have := h n hn; simp at this
      · intro h x hx; simp; rintro rfl; exact h hx
    by_cases hn : n ∈ s.l
    · have h1 : ¬ allP (fun x => !decide (x = n)) s.l = true := fun h => hmem.1 h hn
      rw [if_neg h1] at hw
      cases s with
      | nil => simp at hn
      | of l =>
        simp at hw hn
        simp -implicitDefEqProofs [hw, hn]
    · rw [if_pos (hmem.2 hn)] at hw
      have hd : decide (n ∈ s.l) = false := by simpa using hn
      rw [hd]
      cases s <;> simp at hw <;> simp -implicitDefEqProofs [hw]
  · have e2 := wrap_succ hk hl
    delta L17_0
    cases s with
    | nil => simp at hk
    | of l =>
      simp only [Sl.l_of] at hk hy
      by_cases h : x = n
      · simp -implicitDefEqProofs [hk, hy, Ints.c, e2, h]
      · simp -implicitDefEqProofs [hk, hy, Ints.c, e2, h]
end Go.Proofs.YtenndgooepdmiaaDoor
end
section
namespace Go.Proofs.YtenndgooepdmiaaDoor
open Go Go.AM Go.Proofs
set_option maxRecDepth 20000
set_option maxHeartbeats 2000000
set_option linter.unusedSimpArgs false
set_option linter.unusedVariables false
theorem askedQ_of {q : Req} (h : reqOk q = true) : askedQ (encReq q) = mkReq (unReq q) := by
  unfold askedQ
  rw [(asked_enc h).1, (asked_enc h).2]; rfl
theorem enc_small (n : Int) (h : n.toNat < 128) : encN n = [UInt8.ofNat n.toNat] := by
  unfold encN varB
  rw [varI, varL, if_pos h, if_pos h]; rfl
def w1 : Acc := ⟨7, 3, [120]⟩
def w2 : Acc := ⟨8, 5, [121]⟩
def w3 : Acc := ⟨9, 5, [119]⟩
def r1 : Rsc := ⟨3, [120], .of [w1]⟩
def r2 : Rsc := ⟨5, [121], .of [w1, w2]⟩
def r3 : Rsc := ⟨5, [119], .of [w1, w2, w3]⟩
def req20 : Req := ⟨8, 9, 0, false, [], [119], 0, 0, 0, 5, .nil, .nil, .nil⟩
theorem req20_ok : reqOk req20 = true := by decide
theorem req20_enc : encReq req20 = [1, 8, 9, 0, 0, 0, 1, 119, 0, 0, 0, 5, 0, 0, 0] := by
  unfold encReq encHead encMuts encS encB req20
  simp [enc_small]
theorem asked_x : askedOk [120] = false := by
  cases h : askedOk [120]
  · rfl
  · have := asked_inv h
    simp only [encReq, encHead, List.append_assoc] at this
    have h2 := this.2
    simp at h2
theorem toks3 : upL (toks [w1, w2, w3]) = [3, 5] := by
  refine up_ext _ _ (upL_up _) (by simp) fun n => ?_
  rw [mem_upL]
  simp [toks, w1, w2, w3]
theorem owns3 : upL (owns 5 [w1, w2, w3]) = [8, 9] := by
  refine up_ext _ _ (upL_up _) (by simp) fun n => ?_
  rw [mem_upL]
  simp [owns, w1, w2, w3]
theorem wr_take {r : Rsc} {x : Acc} (h : ck r x = 0) : wrR r x = takeR r x ∧ wrE r x = 0 := by
  unfold wrR wrE; rw [if_pos h, h]; exact ⟨rfl, rfl⟩
theorem wr_not {r : Rsc} {x : Acc} {k : Nat} (h : ck r x = k + 1) : wrR r x = r ∧ wrE r x = codeN (k + 1) := by
  unfold wrR wrE; rw [if_neg (by omega), h]; exact ⟨rfl, rfl⟩
theorem do3 : doR r2 (encReq req20) = r3 ∧ doE r2 (encReq req20) = 0 := by
  have h1 : askedQ (encReq req20) = req20 := by rw [askedQ_of req20_ok]; rfl
  have h2 : doOk (encReq req20) = true := by unfold doOk; rw [(asked_enc req20_ok).1, h1]; decide
  unfold doR doE
  rw [if_pos h2, if_pos h2, h1]
  exact wr_take (r := r2) (x := w3) (by decide)
theorem dox : doR r2 [120] = r2 ∧ doE r2 [120] = 3 := by
  have h2 : doOk [120] = false := by unfold doOk; rw [asked_x]; rfl
  unfold doR doE
  rw [h2]; exact ⟨rfl, rfl⟩
theorem live20 {H : List Blk} (hG : Glb H) : EvF tab 7 [] H = some ⟨B true, [], []⟩ := by
  have a1 := Write_ev hG zR w1
  have a2 := fun o => Write_ev (hG.app o) r1 w2
  have a3 := fun o => Write_ev (hG.app o) r2 ⟨7, 4, [122]⟩
  have a4 := fun o => Write_ev (hG.app o) r2 ⟨7, 0, [122]⟩
  have a5 := fun H => Ask_ev req20 ⟨by simp [req20], by simp [req20], by simp [req20]⟩ H
  have a6 := fun o => Do_ev (hG.app o) r2 (encReq req20) (by rw [req20_enc]; simp)
  have a7 := fun o => Do_ev (hG.app o) r2 [120] (by simp)
  have a8 := fun H => Owners_ev r3 5 (by simp [r3]) H
  have a9 := fun H => Tokens_ev r3 (by simp [r3]) H
  have a10 := fun H => Ints_ev (.of [8, 9]) (by simp) H
  have a11 := fun H => Ints_ev (.of [3, 5]) (by simp) H
  have a12 := fun H => Same_ev r2 (by simp [r2]) H
  have a13 := fun o => May_ev (hG.app o) r3 (by simp [r3])
  have a14 := fun o => May_ev (hG.app o) ⟨1, [], .nil⟩ (by simp)
  rw [(wr_take (show ck zR w1 = 0 by decide)).1, (wr_take (show ck zR w1 = 0 by decide)).2] at a1
  rw [(wr_take (show ck r1 w2 = 0 by decide)).1, (wr_take (show ck r1 w2 = 0 by decide)).2] at a2
  rw [(wr_not (k := 1) (show ck r2 ⟨7, 4, [122]⟩ = 2 by decide)).1, (wr_not (k := 1) (show ck r2 ⟨7, 4, [122]⟩ = 2 by decide)).2] at a3
  rw [(wr_not (k := 0) (show ck r2 ⟨7, 0, [122]⟩ = 1 by decide)).1, (wr_not (k := 0) (show ck r2 ⟨7, 0, [122]⟩ = 1 by decide)).2] at a4
  rw [req20_ok] at a5
  rw [do3.1, do3.2] at a6
  rw [dox.1, dox.2] at a7
  rw [show r3.log.l = [w1, w2, w3] from rfl, owns3] at a8
  rw [show r3.log.l = [w1, w2, w3] from rfl, toks3] at a9
  rw [show mayR r3 = true by decide] at a13
  rw [show mayR ⟨1, [], .nil⟩ = false by decide] at a14
  rw [req20_enc] at a5 a6
  simp only [if_true] at a5
  simp [A, Rsc.c, Req.c, Acc.c, Accs.g, takeR, zR, w1, w2, w3, r1, r2, r3, req20, slI, Ints.c, codeN] at a1 a2 a3 a4 a5 a6 a7 a8 a9 a10 a11 a12 a13 a14
  refine EvF_walk t7 (by simp) ?_
  simp -implicitDefEqProofs [zres, chunk, a1, a2, a3, a4, a5, a6, a7, a8, a9, a10, a11, a12, a13, a14]
end Go.Proofs.YtenndgooepdmiaaDoor
end
section
namespace Go.Proofs.YtenndgooepdmiaaDoor
open Go Go.AM Go.Proofs
set_option maxRecDepth 20000
set_option maxHeartbeats 2000000
set_option linter.unusedSimpArgs false
set_option linter.unusedVariables false
theorem wrR_len (r : Rsc) (x : Acc) : (wrR r x).log.l.length ≤ r.log.l.length + 1 := by
  unfold wrR
  split
  · simp [takeR]
  · omega
theorem FenceWrites_ev {H : List Blk} (hG : Glb H) (x0 : Rsc) (x1 : Int × Int) (x2 : Bs) (w0 : x0.wf) : EvF tab 3 [A x0.c, A (I2.c x1), T x2] H = some ⟨.g (.bool true), [], []⟩ := by
  have hl := w0.2.2.2
  obtain ⟨n0, n1⟩ := x1
  have m0 := fun o => live20 (hG.app o)
  have m1 := fun o => Write_ev (hG.app o) x0 ⟨n0, n1, x2⟩
  have m2 := fun H => Write2_ev x0 ⟨n0, n1, x2⟩ hl H
  have m3 := fun o => May_ev (hG.app o) x0 hl
  have m4 := fun H => May2_ev x0 hl H
  have hlen := fun h st => lenV_Sl h st 3 Acc.c x0.log
  refine EvF_walk t3 (by simp) ?_
  by_cases h1 : 60 < x0.log.l.length
  · have h1' : (60 : Int) < (x0.log.l.length : Int) := by omega
    simp -implicitDefEqProofs [A, Rsc.c, I2.c, hlen, h1', m0]
  · have h1' : ¬ (60 : Int) < (x0.log.l.length : Int) := by omega
    by_cases h2 : 60 < x2.length
    · have h2' : (60 : Int) < (x2.length : Int) := by omega
      simp -implicitDefEqProofs [A, Rsc.c, I2.c, hlen, h1', h2', m0]
    · have h2' : ¬ (60 : Int) < (x2.length : Int) := by omega
      have hw := wrR_len x0 ⟨n0, n1, x2⟩
      have m5 := fun H => Same_ev (wrR x0 ⟨n0, n1, x2⟩) (by omega) H
      generalize wrE x0 ⟨n0, n1, x2⟩ = e at *
      generalize wrR x0 ⟨n0, n1, x2⟩ = w at *
      generalize mayR x0 = b at *
      obtain ⟨wh, wv, wl⟩ := w
      obtain ⟨rh, rv, rl⟩ := x0
      simp only [A, Rsc.c, List.map_cons, List.map_nil] at m1 m2 m3 m4 m5
      simp -implicitDefEqProofs [A, Rsc.c, I2.c, hlen, h1', h2', zres, m0, m1, m2, m3, m4, m5]
theorem FenceWrites_law (x0 : Rsc) (x1 : Int × Int) (x2 : Bs) (w0 : x0.wf) (w1 : I64 x1.1 ∧ I64 x1.2) (w2 : S64 x2) : EvF tab 3 [A x0.c, A (I2.c x1), T x2] H0 = some ⟨.g (.bool true), [], []⟩ :=
  FenceWrites_ev glb0 x0 x1 x2 w0
end Go.Proofs.YtenndgooepdmiaaDoor
end
section
namespace Go.Proofs.YtenndgooepdmiaaDoor
open Go Go.AM Go.Proofs
set_option maxRecDepth 20000
set_option maxHeartbeats 2000000
set_option linter.unusedSimpArgs false
set_option linter.unusedVariables false
theorem may_len {r : Rsc} (h : mayR r = true) : r.log.l.length ≤ 40 := (mayR_iff.1 h).2.1
theorem rises_step {H : List Blk} (hG : Glb H) (l : List Acc) (hl : l.length ≤ 50) (k : Nat) (x : Acc) (hk : k < l.length) (hy : l[k] = x) (r : Rsc) (hm : mayR r = true) (o : List Blk) :
    ∃ o', kpN [1, 2, 5, 6] (evCode (EvF tab) H L4_0 ⟨[(1, .g (Accs.g (.of l))), (2, .ptr H.length 0), (5, I r.high), (6, I k)], [], rC0 r (.g (Accs.g r.log)) :: o⟩) =
      some (.normal, ⟨[(1, .g (Accs.g (.of l))), (2, .ptr H.length 0), (5, I (wrR r x).high), (6, I (k + 1 : Nat))], [], rC0 (wrR r x) (.g (Accs.g (wrR r x).log)) :: o'⟩) := by
  have e2 := wrap_succ hk (by omega)
  have h40 := may_len hm
  have m1 := fun o => Write_ev (hG.app o) r x
  have hlw := wrR_len r x
  have m2 := fun o => May_ev (hG.app o) (wrR r x) (by omega)
  rw [may_wr hm] at m2
  have m3 := fun H => Same_ev r (by omega) H
  by_cases hc : ck r x = 0
  · obtain ⟨c1, c2, c3⟩ := ck_zero.1 hc
    have hx0 : ¬ x.token < r.high := by omega
    have hE : wrE r x = 0 := wrE_zero.2 hc
    have hW : wrR r x = takeR r x := by unfold wrR; rw [if_pos hc]
    rw [hE] at m1
    rw [hW] at m1 m2 ⊢
    have hv := fun h st => lenV_Sl h st 3 Acc.c r.log
    have e3 : IntKind.i64.wrap ((r.log.l.length : Int) + 1) = (r.log.l.length : Int) + 1 := wrap_i64 (by omega) (by omega)
    have e4 : (r.log.l.map Acc.c ++ [Acc.c x])[r.log.l.length]? = some (Acc.c x) := by
      rw [List.getElem?_append_right (by simp)]; simp
    obtain ⟨xw, xt, xv⟩ := x
    obtain ⟨rh, rv, rl⟩ := r
    simp only [A, Rsc.c, takeR, List.map_cons, List.map_nil, Accs.g, Sl.g_of, List.map_append, Acc.c] at m1 m2 m3 hx0 hv e3 e4 ⊢
    refine ⟨o ++ [.cells [I xw, I xt, T xv], .rows 3 1 [], .cells [I xt, T xv, .g (.sl 3 (rl.l.map Acc.c ++ [Acc.c ⟨xw, xt, xv⟩]))]], ?_⟩
    delta L4_0
    unfold rC0
    simp -implicitDefEqProofs [hk, hy, Acc.c, Accs.g, e2, zres, m1, m2, hx0, hv, e3, e4]
  · have hE : wrE r x ≠ 0 := fun h => hc (wrE_zero.1 h)
    have hW : wrR r x = r := by unfold wrR; rw [if_neg hc]
    rw [hW] at m1 m2 ⊢
    generalize wrE r x = e at *
    obtain ⟨xw, xt, xv⟩ := x
    obtain ⟨rh, rv, rl⟩ := r
    simp only [A, Rsc.c, List.map_cons, List.map_nil] at m1 m2 m3 ⊢
    refine ⟨o ++ [.cells [I xw, I xt, T xv], .rows 3 1 [], .cells [I rh, T rv, .g (Accs.g rl)]], ?_⟩
    delta L4_0
    unfold rC0
    by_cases hx0 : xt < rh
    · simp -implicitDefEqProofs [hk, hy, Acc.c, e2, zres, m1, m2, m3, hx0, hE]
    · simp -implicitDefEqProofs [hk, hy, Acc.c, e2, zres, m1, m2, m3, hx0, hE]
theorem may_run : ∀ (l : List Acc) (r : Rsc), mayR r = true → mayR (l.foldl wrR r) = true := by
  intro l
  induction l with
  | nil => intro r h; exact h
  | cons x l ih => intro r h; exact ih _ (may_wr h)
theorem runG_wr : ∀ (l : List Acc) (k : Nat) (r : Rsc), runG (fun _ (x : Acc) (r : Rsc) => (.inl (wrR r x) : Rsc ⊕ Unit)) k l r = .inl (l.foldl wrR r) := by
  intro l
  induction l with
  | nil => intro k r; rfl
  | cons x l ih => intro k r; simp only [runG, List.foldl_cons]; exact ih _ _
theorem rises_end {H : List Blk} (r : Rsc) (hm : mayR r = true) (tt : AV) (o : List Blk) :
    loopE (EvF tab) H L4_1 [2, 10, 11] ⟨[(2, .ptr H.length 0), (10, tt), (11, I 1)], [], rC0 r (.g (Accs.g r.log)) :: o⟩ =
      some (.exit 2, ⟨[(2, .ptr H.length 0), (10, tt), (11, I (r.log.l.length - 1 + 1 : Nat)), (117, B false)], [], rC0 r (.g (Accs.g r.log)) :: o⟩) := by
  have h40 := may_len hm
  have hup := (upB_le _ _ [] (mayR_iff.1 hm).1).2.2.2
  obtain ⟨rh, rv, s⟩ := r
  simp only at h40 hup ⊢
  have hv := fun h st => lenV_Sl h st 3 Acc.c s
  have hw := loop_cnt (E := EvF tab) (h := H) (c := L4_1) (lv := [2, 10, 11]) (s.l.length - 1) (fun k => ⟨[(2, .ptr H.length 0), (10, tt), (11, I (k + 1 : Nat))], [], rC0 ⟨rh, rv, s⟩ (.g (Accs.g s)) :: o⟩)
    (.exit 2, ⟨[(2, .ptr H.length 0), (10, tt), (11, I (s.l.length - 1 + 1 : Nat)), (117, B false)], [], rC0 ⟨rh, rv, s⟩ (.g (Accs.g s)) :: o⟩) (by simp) (fun k hk => ?_) ?_
  · simpa using hw
  · have hk1 : k + 1 < s.l.length := by omega
    have e2 : IntKind.i64.wrap ((k : Int) + 1 + 1) = (k : Int) + 1 + 1 := wrap_i64 (by omega) (by omega)
    have e3 : IntKind.i64.wrap (k : Int) = k := wrap_i64 (by omega) (by omega)
    have e4 : ((k : Int) + 1).toNat = k + 1 := by omega
    have e5 : (0 : Int) ≤ (k : Int) + 1 := by omega
    cases s with
    | nil => simp at hk1
    | of l =>
      simp only [Sl.l_of] at hk hk1 hup hv
      obtain ⟨x, hx⟩ : ∃ x, l[k]'(by omega) = x := ⟨_, rfl⟩
      obtain ⟨y, hy⟩ : ∃ y, l[k + 1] = y := ⟨_, rfl⟩
      have hxy := hup k x y (by rw [List.getElem?_eq_getElem (by omega), hx]) (by rw [List.getElem?_eq_getElem hk1, hy])
      have hk0 : k < l.length := by omega
      have i1 : (k : Int) + 1 < (l.length : Int) := by omega
      delta L4_1
      unfold rC0
      simp -implicitDefEqProofs [Accs.g, Acc.c, hv, e2, e3, e4, e5, hk0, hk1, hx, hy, i1, show ¬ y.token < x.token by omega]
  · have i1 : ¬ (((s.l.length - 1 + 1 : Nat) : Int) < (s.l.length : Int)) := by omega
    simp only [Int.natCast_add, Int.natCast_one] at i1 ⊢
    delta L4_1
    unfold rC0
    simp -implicitDefEqProofs [Accs.g, hv, i1]
theorem FenceRises_ev {H : List Blk} (hG : Glb H) (x0 : Rsc) (x1 : Sl Acc) (w0 : x0.wf) (w1 : (∀ y ∈ x1.l, y.wf) ∧ x1.l.length ≤ 9223372036854775807) : EvF tab 4 [A x0.c, .g (Accs.g x1)] H = some ⟨.g (.bool true), [], []⟩ := by
  have hl0 := w0.2.2.2
  have m0 := fun o => live20 (hG.app o)
  have m1 := fun o => May_ev (hG.app o) x0 hl0
  have hv0 := fun h st => lenV_Sl h st 3 Acc.c x0.log
  have hv1 := fun h st => lenV_Sl h st 3 Acc.c x1
  refine EvF_walk t4 (by simp) ?_
  cases hm : mayR x0
  · rw [hm] at m1
    obtain ⟨rh, rv, rl⟩ := x0
    simp only [A, Rsc.c, List.map_cons, List.map_nil, Accs.g] at m1 ⊢
    simp -implicitDefEqProofs [hv0, hv1, m0, m1]
  rw [hm] at m1
  have h40 := may_len hm
  have h40' : ¬ (40 : Int) < (x0.log.l.length : Int) := by omega
  by_cases h50 : 50 < x1.l.length
  · have h50' : (50 : Int) < (x1.l.length : Int) := by omega
    obtain ⟨rh, rv, rl⟩ := x0
    simp only [A, Rsc.c, List.map_cons, List.map_nil, Accs.g] at m1 ⊢
    simp -implicitDefEqProofs [hv0, hv1, h40', h50', m0, m1]
  have h50' : ¬ (50 : Int) < (x1.l.length : Int) := by omega
  have hw := loop_runJ (E := EvF tab) (h := H) (c := L4_0) (lv := [1, 2, 5, 6]) (l := x1.l) (β := Rsc) (γ := Unit) (fun k r => mayR r = true) (fun _ x r => .inl (wrR r x))
    (fun k r o => ⟨[(1, .g (Accs.g x1)), (2, .ptr H.length 0), (5, I r.high), (6, I k)], [], rC0 r (.g (Accs.g r.log)) :: o⟩)
    (fun r o => (.exit 0, ⟨[(1, .g (Accs.g x1)), (2, .ptr H.length 0), (5, I r.high), (6, I x1.l.length), (32, B false)], [], rC0 r (.g (Accs.g r.log)) :: o⟩))
    (fun _ o => (.ret, ⟨[], [], o⟩)) (by simp) (by simp) (fun k x r o hk hx hy hi => ?_) (fun r o _ => by delta L4_0; simp -implicitDefEqProofs) x0 [] hm
  · obtain ⟨o', hw⟩ := hw
    rw [runG_wr] at hw
    simp only [endJ, Int.ofNat_zero, Int.cast_ofNat_Int, Int.natCast_zero] at hw
    have hm2 := may_run x1.l x0 hm
    obtain ⟨r, hr⟩ : ∃ r, x1.l.foldl wrR x0 = r := ⟨_, rfl⟩
    rw [hr] at hw hm2
    have hl2 := may_len hm2
    have m2 := fun H => Tokens_ev r (by omega) H
    have m3 := fun tt => rises_end (H := H) r hm2 tt o'
    have hlast := last_tok hm2
    have hnil := upL_nil (l := toks r.log.l)
    have hul := upL_len (toks r.log.l)
    have htl : (toks r.log.l).length = r.log.l.length := by simp [toks]
    generalize upL (toks r.log.l) = u at *
    have hu : (u = [] ∨ ∃ n, u.length = n + 1 ∧ u[n]? = some r.high) := by
      by_cases h0 : r.log.l = []
      · left; rw [hnil, h0]; rfl
      · right
        have h1 := hlast h0
        rw [List.getLast?_eq_getElem?] at h1
        have hne : u.length ≠ 0 := fun e => by rw [e] at h1; simp [List.eq_nil_of_length_eq_zero e] at h1
        exact ⟨u.length - 1, by omega, h1⟩
    unfold rC0 at hw m3
    obtain ⟨rh, rv, rl⟩ := x0
    obtain ⟨qh, qv, ql⟩ := r
    simp only [A, Rsc.c, List.map_cons, List.map_nil, Accs.g] at m1 m2 m3 hw hv0 hv1 ⊢
    rcases hu with rfl | ⟨n, hn1, hn2⟩
    · simp -implicitDefEqProofs [hv0, hv1, h40', h50', m0, m1, m2, m3, hw, slI]
    · have hne : u ≠ [] := fun e => by rw [e] at hn1; simp at hn1
      have hnl : n < u.length := by omega
      have hn3 : u[n] = qh := (List.getElem?_eq_some_iff.1 hn2).2
      have e3 : IntKind.i64.wrap (n : Int) = n := wrap_i64 (by omega) (by omega)
      have hn0 : ¬ (n : Int) + 1 = 0 := by omega
      simp -implicitDefEqProofs [hv0, hv1, h40', h50', m0, m1, m2, m3, hw, slI, hne, hn1, hn2, hn3, e3, hn0, hnl, Ints.c]
  · cases x1 with
    | nil => simp at hk
    | of l =>
      obtain ⟨o', h⟩ := rises_step hG l (by simp at h50; omega) k x hk hy r hi o
      exact ⟨may_wr hi, o', h⟩
theorem FenceRises_law (x0 : Rsc) (x1 : Sl Acc) (w0 : x0.wf) (w1 : (∀ y ∈ x1.l, y.wf) ∧ x1.l.length ≤ 9223372036854775807) : EvF tab 4 [A x0.c, .g (Accs.g x1)] H0 = some ⟨.g (.bool true), [], []⟩ :=
  FenceRises_ev glb0 x0 x1 w0 w1
end Go.Proofs.YtenndgooepdmiaaDoor
end
section
namespace Go.Proofs.YtenndgooepdmiaaDoor
open Go Go.AM Go.Proofs
set_option maxRecDepth 20000
set_option maxHeartbeats 1000000
set_option linter.unusedSimpArgs false
set_option linter.unusedVariables false
def shortT (k v : Bs) : Bool := !(decide (60 < (k.length : Int)) || decide (60 < (v.length : Int)))
def shortM (m : Mut) : Bool := shortT m.key m.value
def shortC (m : Cmp) : Bool := shortT m.key m.value
theorem ShortMuts_loop (s : Sl Mut) (hl : s.l.length ≤ 9223372036854775807) (H : List Blk) :
    loopE (EvF tab) H L25_0 [0, 3] ⟨[(0, .g (Muts.g s)), (3, I 0)], [], []⟩ =
      some (if allP shortM s.l = true then (.exit 0, ⟨[(0, .g (Muts.g s)), (3, I s.l.length), (10, B false)], [], []⟩) else (.ret, ⟨[(2, B false)], [], []⟩)) := by
  refine loop_all0 (l := s.l) shortM (fun k => ⟨[(0, .g (Muts.g s)), (3, I k)], [], []⟩) _ _ (by simp) (by simp) (fun k x hk hx hy => ?_) (by delta L25_0; cases s <;> simp -implicitDefEqProofs)
  delta L25_0
  have e2 := wrap_succ hk hl
  cases s with
  | nil => simp at hk
  | of l =>
    simp only [Sl.l_of] at hk hy
    by_cases h1 : 60 < (x.key.length : Int)
    · simp -implicitDefEqProofs [hk, hy, Mut.c, shortM, shortT, h1]
    · by_cases h2 : 60 < (x.value.length : Int)
      · simp -implicitDefEqProofs [hk, hy, Mut.c, shortM, shortT, h1, h2]
      · simp -implicitDefEqProofs [hk, hy, Mut.c, shortM, shortT, h1, h2, e2]
def shortMs (s : Sl Mut) : Bool := decide (s.l.length ≤ 8) && allP shortM s.l
theorem ShortMuts_ev (s : Sl Mut) (hl : s.l.length ≤ 9223372036854775807) (H : List Blk) : EvF tab 25 [.g (Muts.g s)] H = some ⟨B (shortMs s), [], []⟩ := by
  refine EvF_walk t25 (by simp) ?_
  have hw := ShortMuts_loop s hl H
  unfold shortMs
  by_cases h : s.l.length ≤ 8
  · cases hs : allP shortM s.l <;> rw [hs] at hw <;> simp only [Bool.false_eq_true, if_true, if_false] at hw
    all_goals simp -implicitDefEqProofs [h, show ¬ (8 : Int) < (s.l.length : Int) by omega, hw]
  · simp -implicitDefEqProofs [h, show (8 : Int) < (s.l.length : Int) by omega]
theorem Short_loop (r : Req) (hl : r.iff.l.length ≤ 9223372036854775807) (H : List Blk) :
    loopE (EvF tab) H L14_0 [1, 3] ⟨[(1, .ptr H.length 0), (3, I 0)], [], [.cells (r.c.map .g)]⟩ =
      some (if allP shortC r.iff.l = true then (.exit 0, ⟨[(1, .ptr H.length 0), (3, I r.iff.l.length), (40, B false)], [], [.cells (r.c.map .g)]⟩) else (.ret, ⟨[(2, B false)], [], [.cells (r.c.map .g)]⟩)) := by
  refine loop_all0 (l := r.iff.l) shortC (fun k => ⟨[(1, .ptr H.length 0), (3, I k)], [], [.cells (r.c.map .g)]⟩) _ _ (by simp) (by simp) (fun k x hk hx hy => ?_) (by delta L14_0; simp -implicitDefEqProofs [Req.c])
  delta L14_0
  have e2 := wrap_succ hk hl
  obtain ⟨b1, b2, b3, b4, b5, b6, b7, b8, b9, b10, bi, bt, be⟩ := r
  simp only at hk hl hx hy e2 ⊢
  cases bi with
  | nil => simp at hk
  | of l =>
    simp only [Sl.l_of] at hk hy e2 ⊢
    by_cases h1 : 60 < (x.key.length : Int)
    · simp -implicitDefEqProofs [hk, hy, Req.c, Cmp.c, shortC, shortT, h1]
    · by_cases h2 : 60 < (x.value.length : Int)
      · simp -implicitDefEqProofs [hk, hy, Req.c, Cmp.c, shortC, shortT, h1, h2]
      · simp -implicitDefEqProofs [hk, hy, Req.c, Cmp.c, shortC, shortT, h1, h2, e2]
def shortReq (r : Req) : Bool := decide (r.key.length ≤ 60) && decide (r.value.length ≤ 60) && decide (r.iff.l.length ≤ 8) && decide (r.thn.l.length ≤ 8) && decide (r.els.l.length ≤ 8) && allP shortC r.iff.l && shortMs r.thn && shortMs r.els
theorem Short_ev (r : Req) (w : r.wf) (H : List Blk) : EvF tab 14 [A r.c] H = some ⟨B (shortReq r), [], []⟩ := by
  have hw := Short_loop r w.2.2.2.2.2.2.2.2.2.1.2 H
  have hm1 := ShortMuts_ev r.thn w.2.2.2.2.2.2.2.2.2.2.1.2
  have hm2 := ShortMuts_ev r.els w.2.2.2.2.2.2.2.2.2.2.2.2
  refine EvF_walk t14 (by simp) ?_
  obtain ⟨kind, who, seq, once, key, value, lease, rev, ttl, token, iff, thn, els⟩ := r
  unfold shortReq
  simp only at hw hm1 hm2 ⊢
  generalize shortMs thn = m1 at hm1 ⊢
  generalize shortMs els = m2 at hm2 ⊢
  simp only [Req.c, List.map_cons, List.map_nil] at hw
  by_cases k1 : key.length ≤ 60
  · by_cases k2 : value.length ≤ 60
    · by_cases k3 : iff.l.length ≤ 8
      · by_cases k4 : thn.l.length ≤ 8
        · by_cases k5 : els.l.length ≤ 8
          · cases hs : allP shortC iff.l <;> rw [hs] at hw <;> simp only [Bool.false_eq_true, if_true, if_false] at hw
            · simp -implicitDefEqProofs [A, Req.c, hw, k1, k2, k3, k4, k5, show ¬ (60 : Int) < (key.length : Int) by omega, show ¬ (60 : Int) < (value.length : Int) by omega, show ¬ (8 : Int) < (iff.l.length : Int) by omega, show ¬ (8 : Int) < (thn.l.length : Int) by omega, show ¬ (8 : Int) < (els.l.length : Int) by omega]
            · cases m1 <;> simp -implicitDefEqProofs [A, Req.c, hw, hm1, hm2, k1, k2, k3, k4, k5, show ¬ (60 : Int) < (key.length : Int) by omega, show ¬ (60 : Int) < (value.length : Int) by omega, show ¬ (8 : Int) < (iff.l.length : Int) by omega, show ¬ (8 : Int) < (thn.l.length : Int) by omega, show ¬ (8 : Int) < (els.l.length : Int) by omega]
          · simp -implicitDefEqProofs [A, Req.c, k1, k2, k3, k4, k5, show ¬ (60 : Int) < (key.length : Int) by omega, show ¬ (60 : Int) < (value.length : Int) by omega, show ¬ (8 : Int) < (iff.l.length : Int) by omega, show ¬ (8 : Int) < (thn.l.length : Int) by omega, show (8 : Int) < (els.l.length : Int) by omega]
        · simp -implicitDefEqProofs [A, Req.c, k1, k2, k3, k4, show ¬ (60 : Int) < (key.length : Int) by omega, show ¬ (60 : Int) < (value.length : Int) by omega, show ¬ (8 : Int) < (iff.l.length : Int) by omega, show (8 : Int) < (thn.l.length : Int) by omega]
      · simp -implicitDefEqProofs [A, Req.c, k1, k2, k3, show ¬ (60 : Int) < (key.length : Int) by omega, show ¬ (60 : Int) < (value.length : Int) by omega, show (8 : Int) < (iff.l.length : Int) by omega]
    · simp -implicitDefEqProofs [A, Req.c, k1, k2, show ¬ (60 : Int) < (key.length : Int) by omega, show (60 : Int) < (value.length : Int) by omega]
  · simp -implicitDefEqProofs [A, Req.c, k1, show (60 : Int) < (key.length : Int) by omega]
end Go.Proofs.YtenndgooepdmiaaDoor
end
section
namespace Go.Proofs.YtenndgooepdmiaaDoor
open Go Go.AM Go.Proofs
set_option maxRecDepth 20000
set_option maxHeartbeats 2000000
set_option linter.unusedSimpArgs false
set_option linter.unusedVariables false
theorem asked_nil : askedOk [] = false := by
  cases h : askedOk []
  · rfl
  · have := asked_inv h
    simp only [encReq, encHead, List.append_assoc] at this
    have h2 := this.2
    simp at h2
theorem enc_len {r : Req} (h : reqOk r = true) : (encReq r).length ≤ 2000 := by
  have hk := reqOk_iff h
  obtain ⟨j1, j2⟩ := mutsOk_iff.1 hk.m1
  obtain ⟨j3, j4⟩ := mutsOk_iff.1 hk.m2
  have a1 := encHead_len hk
  have a2 := encCmps_len hk.i1 hk.i2
  have a3 := encMuts_len j1 j2
  have a4 := encMuts_len j3 j4
  simp only [encReq, List.length_append]; omega
def sentS (q : Req) : Bs := if reqOk q = true then encReq q else []
theorem sent_do (r : Rsc) (q : Req) : doR r (sentS q) = (if reqOk q = true ∧ q.kind = 8 then wrR r (qAcc q) else r) ∧ doE r (sentS q) = (if reqOk q = true ∧ q.kind = 8 then wrE r (qAcc q) else 3) := by
  unfold sentS doR doE doOk
  cases h : reqOk q
  · simp [asked_nil]
  · simp only [if_true, (asked_enc h).1, Bool.true_and, true_and, askedQ_of h, decide_eq_true_eq]
    exact ⟨rfl, rfl⟩
theorem FenceBytes_ev {H : List Blk} (hG : Glb H) (x0 : Rsc) (x1 : Req) (w0 : x0.wf) (w1 : x1.wf) : EvF tab 5 [A x0.c, A x1.c] H = some ⟨.g (.bool true), [], []⟩ := by
  have hl := w0.2.2.2
  have m0 := fun o => live20 (hG.app o)
  have m1 := fun H => Short_ev x1 w1 H
  have m2 := fun H => Ask_ev x1 (rl w1) H
  have hsl : (sentS x1).length ≤ 9223372036854775807 := by
    unfold sentS
    split
    · rename_i h; have := enc_len h; omega
    · simp
  have m3 := fun o => Do_ev (hG.app o) x0 (sentS x1) hsl
  rw [(sent_do x0 x1).1, (sent_do x0 x1).2] at m3
  have m4 := fun o => Write_ev (hG.app o) x0 (qAcc x1)
  have m5 := fun H => Same_ev x0 hl H
  have hlen := fun h st => lenV_Sl h st 3 Acc.c x0.log
  refine EvF_walk t5 (by simp) ?_
  generalize shortReq x1 = sh at m1
  obtain ⟨y1, y2, y3, y4, y5, y6, y7, y8, y9, y10, y11, y12, y13⟩ := x1
  by_cases h1 : 60 < x0.log.l.length
  · have h1' : (60 : Int) < (x0.log.l.length : Int) := by omega
    simp -implicitDefEqProofs [A, Rsc.c, Req.c, hlen, h1', m0]
  · have h1' : ¬ (60 : Int) < (x0.log.l.length : Int) := by omega
    simp only [A, Req.c, List.map_cons, List.map_nil, qAcc] at m1 m2 m4
    cases sh
    · simp -implicitDefEqProofs [A, Rsc.c, Req.c, hlen, h1', m0, m1]
    · cases hok : reqOk ⟨y1, y2, y3, y4, y5, y6, y7, y8, y9, y10, y11, y12, y13⟩
      · rw [hok] at m2 m3
        simp only [sentS, hok, Bool.false_eq_true, if_false, false_and] at m2 m3
        obtain ⟨rh, rv, rl⟩ := x0
        simp only [A, Rsc.c, List.map_cons, List.map_nil] at m3 m5
        simp -implicitDefEqProofs [A, Rsc.c, Req.c, hlen, h1', zres, m0, m1, m2, m3, m5]
      · rw [hok] at m2 m3
        simp only [sentS, hok, if_true, true_and] at m2 m3
        generalize encReq ⟨y1, y2, y3, y4, y5, y6, y7, y8, y9, y10, y11, y12, y13⟩ = t at m2 m3
        by_cases hk : y1 = 8
        · simp only [hk, if_true, qAcc] at m3
          have hw := wrR_len x0 ⟨y2, y10, y6⟩
          have m6 := fun H => Same_ev (wrR x0 ⟨y2, y10, y6⟩) (by omega) H
          generalize wrE x0 ⟨y2, y10, y6⟩ = e at *
          generalize wrR x0 ⟨y2, y10, y6⟩ = w at *
          obtain ⟨wh, wv, wl⟩ := w
          obtain ⟨rh, rv, rl⟩ := x0
          simp only [A, Rsc.c, List.map_cons, List.map_nil] at m3 m4 m5 m6
          subst hk
          simp -implicitDefEqProofs [A, Rsc.c, Req.c, hlen, h1', zres, m0, m1, m2, m3, m4, m5, m6]
        · simp only [if_neg hk] at m3
          obtain ⟨rh, rv, rl⟩ := x0
          simp only [A, Rsc.c, List.map_cons, List.map_nil] at m3 m5
          simp -implicitDefEqProofs [A, Rsc.c, Req.c, hlen, h1', zres, m0, m1, m2, m3, m5, hk]
theorem FenceBytes_law (x0 : Rsc) (x1 : Req) (w0 : x0.wf) (w1 : x1.wf) : EvF tab 5 [A x0.c, A x1.c] H0 = some ⟨.g (.bool true), [], []⟩ :=
  FenceBytes_ev glb0 x0 x1 w0 w1
end Go.Proofs.YtenndgooepdmiaaDoor
end
section
namespace Go.Proofs.YtenndgooepdmiaaDoor
open Go Go.AM Go.Proofs
set_option maxRecDepth 20000
set_option maxHeartbeats 2000000
set_option linter.unusedSimpArgs false
set_option linter.unusedVariables false
theorem may_len4 {r : Rsc} (h : mayR r = true) : r.log.l.length ≤ 40 := (mayR_iff.1 h).2.1
theorem slI_l (l : List Int) : (slI l).l = l := by
  unfold slI
  split
  · rename_i h; subst h; rfl
  · rfl
theorem own_loop0 {H : List Blk} (r : Rsc) (h40 : r.log.l.length ≤ 40) (ot : Int) (Q : Blk) :
    loopE (EvF tab) H L6_0 [2, 3, 4, 7, 8, 9] ⟨[(2, I ot), (3, .ptr H.length 0), (4, .ptr (H.length + 1) 0), (7, .g (.fn 17)), (8, .g (Ints.g (slI (upL (toks r.log.l))))), (9, I 0)], [], [rC0 r (.g (Accs.g r.log)), Q]⟩ =
      some (.exit 0, ⟨[(2, I ot), (3, .ptr H.length 0), (4, .ptr (H.length + 1) 0), (7, .g (.fn 17)), (8, .g (Ints.g (slI (upL (toks r.log.l))))), (9, I r.log.l.length), (29, B false)], [], [rC0 r (.g (Accs.g r.log)), Q]⟩) := by
  have hv := fun h st => lenV_Sl h st 3 Acc.c r.log
  have hw := loop_cnt (E := EvF tab) (h := H) (c := L6_0) (lv := [2, 3, 4, 7, 8, 9]) r.log.l.length
    (fun k => ⟨[(2, I ot), (3, .ptr H.length 0), (4, .ptr (H.length + 1) 0), (7, .g (.fn 17)), (8, .g (Ints.g (slI (upL (toks r.log.l))))), (9, I k)], [], [rC0 r (.g (Accs.g r.log)), Q]⟩)
    (.exit 0, ⟨[(2, I ot), (3, .ptr H.length 0), (4, .ptr (H.length + 1) 0), (7, .g (.fn 17)), (8, .g (Ints.g (slI (upL (toks r.log.l))))), (9, I r.log.l.length), (29, B false)], [], [rC0 r (.g (Accs.g r.log)), Q]⟩) (by simp) (fun k hk => ?_) ?_
  · simpa using hw
  · have e2 := wrap_succ hk (by omega)
    obtain ⟨x, hx⟩ : ∃ x, r.log.l[k] = x := ⟨_, rfl⟩
    have hmem : x ∈ r.log.l := by rw [← hx]; exact List.getElem_mem hk
    have htl := upL_len (toks r.log.l)
    have htl2 : (toks r.log.l).length = r.log.l.length := by simp [toks]
    have hol := upL_len (owns x.token r.log.l)
    have hol2 : (owns x.token r.log.l).length ≤ r.log.l.length := by unfold owns; rw [List.length_map]; exact List.length_filter_le ..
    have m1 := fun H => has_ev (slI (upL (toks r.log.l))) x.token (by rw [slI_l]; omega) H
    have m2 := fun H => Owners_ev r x.token (by omega) H
    have m3 := fun H => has_ev (slI (upL (owns x.token r.log.l))) x.who (by rw [slI_l]; omega) H
    rw [slI_l, decide_eq_true (mem_toks hmem)] at m1
    rw [slI_l, decide_eq_true (mem_owns hmem)] at m3
    generalize slI (upL (toks r.log.l)) = t1 at *
    generalize slI (upL (owns x.token r.log.l)) = t2 at *
    obtain ⟨rh, rv, s⟩ := r
    obtain ⟨xw, xt, xv⟩ := x
    simp only [A, Rsc.c, List.map_cons, List.map_nil] at m1 m2 m3 hx hk hv
    cases s with
    | nil => simp at hk
    | of l =>
      simp only [Sl.l_of] at hk hx hv e2
      simp only [Accs.g, Sl.g_of] at m2
      delta L6_0
      unfold rC0
      simp -implicitDefEqProofs [hk, hx, Acc.c, hv, e2, m1, m2, m3]
  · delta L6_0
    unfold rC0
    simp -implicitDefEqProofs [hv]
theorem own_loop1 {H : List Blk} (u : List Int) (hup : u.Pairwise (· < ·)) (hl : u.length ≤ 1000000) (v2 v3 v4 v7 : AV) (o : List Blk) :
    loopE (EvF tab) H L6_1 [2, 3, 4, 7, 8, 10] ⟨[(2, v2), (3, v3), (4, v4), (7, v7), (8, .g (Ints.g (slI u))), (10, I 1)], [], o⟩ =
      some (.exit 2, ⟨[(2, v2), (3, v3), (4, v4), (7, v7), (8, .g (Ints.g (slI u))), (10, I (u.length - 1 + 1 : Nat)), (64, B false)], [], o⟩) := by
  have hw := loop_cnt (E := EvF tab) (h := H) (c := L6_1) (lv := [2, 3, 4, 7, 8, 10]) (u.length - 1)
    (fun k => ⟨[(2, v2), (3, v3), (4, v4), (7, v7), (8, .g (Ints.g (slI u))), (10, I (k + 1 : Nat))], [], o⟩)
    (.exit 2, ⟨[(2, v2), (3, v3), (4, v4), (7, v7), (8, .g (Ints.g (slI u))), (10, I (u.length - 1 + 1 : Nat)), (64, B false)], [], o⟩) (by simp) (fun k hk => ?_) ?_
  · simpa using hw
  · have hk1 : k + 1 < u.length := by omega
    have hk0 : k < u.length := by omega
    have e2 : IntKind.i64.wrap ((k : Int) + 1 + 1) = (k : Int) + 1 + 1 := wrap_i64 (by omega) (by omega)
    have e3 : IntKind.i64.wrap (k : Int) = k := wrap_i64 (by omega) (by omega)
    have e4 : ((k : Int) + 1).toNat = k + 1 := by omega
    have e5 : (0 : Int) ≤ (k : Int) + 1 := by omega
    have i1 : (k : Int) + 1 < (u.length : Int) := by omega
    have hne : u ≠ [] := fun e => by rw [e] at hk1; simp at hk1
    obtain ⟨x, hx⟩ : ∃ x, u[k] = x := ⟨_, rfl⟩
    obtain ⟨y, hy⟩ : ∃ y, u[k + 1] = y := ⟨_, rfl⟩
    have hxy : x < y := by
      rw [← hx, ← hy]
      exact List.pairwise_iff_getElem.1 hup k (k + 1) hk0 hk1 (by omega)
    delta L6_1
    simp -implicitDefEqProofs [slI, hne, Ints.c, e2, e3, e4, e5, i1, hk0, hk1, hx, hy, show ¬ y ≤ x by omega]
  · have i1 : ¬ (((u.length - 1 + 1 : Nat) : Int) < (u.length : Int)) := by omega
    have hv := fun h st => lenV_Sl h st 1 Ints.c (slI u)
    simp only [slI_l] at hv
    simp only [Int.natCast_add, Int.natCast_one] at i1 ⊢
    delta L6_1
    simp -implicitDefEqProofs [hv, i1]
theorem FenceOwners_ev {H : List Blk} (hG : Glb H) (x0 : Rsc) (x1 : Acc) (x2 : Int) (w0 : x0.wf) : EvF tab 6 [A x0.c, A x1.c, I x2] H = some ⟨.g (.bool true), [], []⟩ := by
  have hl0 := w0.2.2.2
  have m0 := fun o => live20 (hG.app o)
  have m1 := fun o => May_ev (hG.app o) x0 hl0
  have hv0 := fun h st => lenV_Sl h st 3 Acc.c x0.log
  refine EvF_walk t6 (by simp) ?_
  cases hm : mayR x0
  · rw [hm] at m1
    obtain ⟨rh, rv, rl⟩ := x0
    obtain ⟨xw, xt, xv⟩ := x1
    simp only [A, Rsc.c, Acc.c, List.map_cons, List.map_nil, Accs.g] at m1 ⊢
    simp -implicitDefEqProofs [hv0, m0, m1]
  rw [hm] at m1
  have h40 := may_len4 hm
  have h40' : ¬ (40 : Int) < (x0.log.l.length : Int) := by omega
  have m2 := fun H => Tokens_ev x0 (by omega) H
  have m3 := fun Q => own_loop0 (H := H) x0 h40 x2 Q
  have hul := upL_len (toks x0.log.l)
  have htl : (toks x0.log.l).length = x0.log.l.length := by simp [toks]
  have m4 := fun v3 v4 v7 o => own_loop1 (H := H) (upL (toks x0.log.l)) (upL_up _) (by omega) (I x2) v3 v4 v7 o
  have m5 := fun o => Write_ev (hG.app o) x0 x1
  by_cases hc : ck x0 x1 = 0
  · have hE : wrE x0 x1 = 0 := wrE_zero.2 hc
    have hW : wrR x0 x1 = takeR x0 x1 := by unfold wrR; rw [if_pos hc]
    rw [hE, hW] at m5
    have hmem : x1 ∈ x0.log.l ++ [x1] := by simp
    have hlen2 : (takeR x0 x1).log.l.length ≤ 41 := by simp [takeR]; omega
    have hll : (takeR x0 x1).log.l = x0.log.l ++ [x1] := rfl
    have n1 := fun H => Owners_ev (takeR x0 x1) x1.token (by omega) H
    have n2 := fun H => Tokens_ev (takeR x0 x1) (by omega) H
    rw [hll] at n1 n2
    have hol := upL_len (owns x1.token (x0.log.l ++ [x1]))
    have hol2 : (owns x1.token (x0.log.l ++ [x1])).length ≤ (x0.log.l ++ [x1]).length := by unfold owns; rw [List.length_map]; exact List.length_filter_le ..
    have htl3 := upL_len (toks (x0.log.l ++ [x1]))
    have htl4 : (toks (x0.log.l ++ [x1])).length = (x0.log.l ++ [x1]).length := by simp [toks]
    rw [List.length_append] at hol2 htl4
    have hone : [x1].length = 1 := rfl
    have n3 := fun H => has_ev (slI (upL (owns x1.token (x0.log.l ++ [x1])))) x1.who (by rw [slI_l]; omega) H
    have n4 := fun H => has_ev (slI (upL (toks (x0.log.l ++ [x1])))) x1.token (by rw [slI_l]; omega) H
    rw [slI_l, decide_eq_true (mem_owns hmem)] at n3
    rw [slI_l, decide_eq_true (mem_toks hmem)] at n4
    have n5 := fun H => Owners_ev x0 x2 (by omega) H
    have n6 := fun (hne : x1.token ≠ x2) H => by
      have h := Owners_ev (takeR x0 x1) x2 (by omega) H
      rw [hll, owns_other hne] at h
      exact h
    have hol3 := upL_len (owns x2 x0.log.l)
    have hol4 : (owns x2 x0.log.l).length ≤ x0.log.l.length := by unfold owns; rw [List.length_map]; exact List.length_filter_le ..
    have n7 := fun H => Ints_ev (slI (upL (owns x2 x0.log.l))) (by rw [slI_l]; omega) H
    generalize slI (upL (owns x1.token (x0.log.l ++ [x1]))) = s1 at *
    generalize slI (upL (toks (x0.log.l ++ [x1]))) = s2 at *
    generalize slI (upL (owns x2 x0.log.l)) = s3 at *
    generalize (upL (toks x0.log.l)).length - 1 + 1 = z at *
    generalize slI (upL (toks x0.log.l)) = s4 at *
    unfold rC0 at m3
    obtain ⟨rh, rv, rl⟩ := x0
    obtain ⟨xw, xt, xv⟩ := x1
    simp only [A, Rsc.c, Acc.c, takeR, List.map_cons, List.map_nil, List.map_append, Accs.g, Sl.g_of] at m1 m2 m3 m5 n1 n2 n3 n4 n5 n6 ⊢
    by_cases hx : x2 = xt
    · subst hx
      simp -implicitDefEqProofs [hv0, h40', zres, m0, m1, m2, m3, m4, m5, n1, n2, n3, n4, n5]
    · have n6 := n6 (fun e => hx e.symm)
      simp -implicitDefEqProofs [hv0, h40', zres, m0, m1, m2, m3, m4, m5, n1, n2, n3, n4, n5, n6, n7, hx]
  · have hE : wrE x0 x1 ≠ 0 := fun h => hc (wrE_zero.1 h)
    have hW : wrR x0 x1 = x0 := by unfold wrR; rw [if_neg hc]
    rw [hW] at m5
    have n1 := fun H => Same_ev x0 hl0 H
    generalize wrE x0 x1 = e at *
    generalize (upL (toks x0.log.l)).length - 1 + 1 = z at *
    generalize slI (upL (toks x0.log.l)) = s4 at *
    unfold rC0 at m3
    obtain ⟨rh, rv, rl⟩ := x0
    obtain ⟨xw, xt, xv⟩ := x1
    simp only [A, Rsc.c, Acc.c, List.map_cons, List.map_nil, Accs.g] at m1 m2 m3 m5 n1 ⊢
    simp -implicitDefEqProofs [hv0, h40', zres, m0, m1, m2, m3, m4, m5, n1, hE]
theorem FenceOwners_law (x0 : Rsc) (x1 : Acc) (x2 : Int) (w0 : x0.wf) (w1 : x1.wf) (w2 : I64 x2) : EvF tab 6 [A x0.c, A x1.c, I x2] H0 = some ⟨.g (.bool true), [], []⟩ :=
  FenceOwners_ev glb0 x0 x1 x2 w0
end Go.Proofs.YtenndgooepdmiaaDoor
end
