/- What the reference's reader makes of deeds and keys. -/
import Derived.Test.YtenndgooepdmiaaSRef1
namespace Go.Proofs.Ytenndgooepdmiaa
open Go Go.AM Go.Proofs
set_option maxRecDepth 20000
set_option maxHeartbeats 2000000
set_option linter.unusedSimpArgs false
set_option linter.unusedVariables false
@[simp] theorem r2C_lt1 (n : Nat) (s : Bs) (st : R2) : (r2C s st).lt1 n = true := by simp [r2C, Blk.lt1, AV.lt1, AV.lt0]
theorem r2C_set2 {H : List Blk} {p : Nat} (hp : p < H.length) (s : Bs) (st : R2) (o : List Blk) : (H.set p (r2C s st) ++ o)[p]? = some (r2C s st) := by
  rw [List.getElem?_append_left (by simpa using hp)]; exact List.getElem?_set_self hp
theorem r2C_app {H : List Blk} {p : Nat} {s : Bs} {st : R2} (hp : H[p]? = some (r2C s st)) (o : List Blk) : (H ++ o)[p]? = some (r2C s st) := by
  rw [List.getElem?_append_left (List.getElem?_eq_some_iff.1 hp).1]; exact hp
theorem r2T_iv {s : Bs} {st : R2} (h : Iv s st) : Iv s (r2T s st).2 := by
  have h1 := r2N_iv h
  unfold r2T
  split
  · exact h1.1
  · rename_i hc
    obtain ⟨⟨i1, i2⟩, i3, i4⟩ := h1
    refine ⟨by simp only; omega, by simp only; omega⟩
theorem r2B_iv {s : Bs} {st : R2} (h : Iv s st) : Iv s (r2B s st).2 := (r2N_iv h).1
def seq2 {α β : Type} (a : R2 → α × R2) (b : R2 → β × R2) (st : R2) : (α × β) × R2 := (((a st).1, (b (a st).2).1), (b (a st).2).2)
def r2Mut (s : Bs) (st : R2) : Mut × R2 :=
  let x := seq2 (r2B s) (seq2 (r2T s) (seq2 (r2T s) (r2N s))) st
  (⟨x.1.1, x.1.2.1, x.1.2.2.1, x.1.2.2.2⟩, x.2)
def r2Cmp (s : Bs) (st : R2) : Cmp × R2 :=
  let x := seq2 (r2T s) (seq2 (r2N s) (seq2 (r2N s) (seq2 (r2N s) (r2T s)))) st
  (⟨x.1.1, x.1.2.1, x.1.2.2.1, x.1.2.2.2.1, x.1.2.2.2.2⟩, x.2)
def r2KV (s : Bs) (st : R2) : KV × R2 :=
  let x := seq2 (r2T s) (seq2 (r2T s) (seq2 (r2N s) (seq2 (r2N s) (seq2 (r2N s) (r2N s))))) st
  (⟨x.1.1, x.1.2.1, x.1.2.2.1, x.1.2.2.2.1, x.1.2.2.2.2.1, x.1.2.2.2.2.2⟩, x.2)
def r2Ev (s : Bs) (st : R2) : Ev × R2 :=
  let x := seq2 (r2N s) (seq2 (r2B s) (r2KV s)) st
  (⟨x.1.1, x.1.2.1, x.1.2.2⟩, x.2)
theorem r2Mut_iv {s : Bs} {st : R2} (h : Iv s st) : Iv s (r2Mut s st).2 := (r2N_iv (r2T_iv (r2T_iv (r2B_iv h)))).1
theorem r2Cmp_iv {s : Bs} {st : R2} (h : Iv s st) : Iv s (r2Cmp s st).2 := r2T_iv (r2N_iv (r2N_iv (r2N_iv (r2T_iv h)).1).1).1
theorem r2KV_iv {s : Bs} {st : R2} (h : Iv s st) : Iv s (r2KV s st).2 := (r2N_iv (r2N_iv (r2N_iv (r2N_iv (r2T_iv (r2T_iv h))).1).1).1).1
theorem r2Ev_iv {s : Bs} {st : R2} (h : Iv s st) : Iv s (r2Ev s st).2 := by
  have := r2KV_iv (r2B_iv (r2N_iv h).1)
  unfold r2Ev
  simp only [seq2]
  exact this
def r2L {α : Type} (it : R2 → α × R2) (k : Int) : Nat → List α → R2 → List α × R2
  | 0, out, st => (out, st)
  | d + 1, out, st => if (out.length : Int) < k ∧ st.2 = false then r2L it k d (out ++ [(it st).1]) (it st).2 else (out, st)
theorem r2L_iv {α : Type} {it : R2 → α × R2} {s : Bs} (hi : ∀ st, Iv s st → Iv s (it st).2) (k : Int) : ∀ (d : Nat) (out : List α) (st : R2), Iv s st → Iv s (r2L it k d out st).2 := by
  intro d
  induction d with
  | zero => intro out st h; exact h
  | succ d ih =>
    intro out st h
    unfold r2L
    split
    · exact ih _ _ (hi _ h)
    · exact h
theorem r2L_le {α : Type} (it : R2 → α × R2) (k : Int) : ∀ (d : Nat) (out : List α) (st : R2), (r2L it k d out st).1.length ≤ out.length + d := by
  intro d
  induction d with
  | zero => intro out st; simp [r2L]
  | succ d ih =>
    intro out st
    unfold r2L
    split
    · have := ih (out ++ [(it st).1]) (it st).2
      simp only [List.length_append, List.length_cons, List.length_nil] at this
      omega
    · simp
theorem r2muts_loop {H : List Blk} {p : Nat} (hpl : p < H.length) {s : Bs} (hl : s.length ≤ 9223372036854775807) (k : Int) : ∀ (d : Nat) (out : List Mut) (st : R2) (o : List Blk), out.length + d = 5 → Iv s st →
    ∃ o', loopE (EvF tab) H L47_0 [0, 3, 4, 5] ⟨[(0, .ptr p 0), (3, .ms (H.length + 1) (out.length + 1) 4 0 out.length), (4, I k), (5, I out.length)], [(p, r2C s st)], .rows 4 1 [] :: .rows 4 (out.length + 1) (out.map Mut.c) :: o⟩ =
      some (.exit 0, ⟨[(0, .ptr p 0), (3, .ms (H.length + 1) ((r2L (r2Mut s) k d out st).1.length + 1) 4 0 (r2L (r2Mut s) k d out st).1.length), (4, I k), (5, I (r2L (r2Mut s) k d out st).1.length), (22, B false)], [(p, r2C s (r2L (r2Mut s) k d out st).2)], .rows 4 1 [] :: .rows 4 ((r2L (r2Mut s) k d out st).1.length + 1) ((r2L (r2Mut s) k d out st).1.map Mut.c) :: o'⟩) := by
  intro d
  induction d with
  | zero =>
    intro out st o h1 hi
    refine ⟨o, ?_⟩
    refine loopE_out _ _ _ _ _ _ (by simp) ?_
    simp only [r2L]
    delta L47_0
    have h5 : ¬ (out.length : Int) ≤ 4 := by omega
    have h5' : ¬ out.length ≤ 4 := by omega
    obtain ⟨a, w⟩ := st
    by_cases hk : (out.length : Int) < k <;> cases w <;> simp -implicitDefEqProofs [r2C, hk, h5, h5', hpl, getB_old, orB]
  | succ d ih =>
    intro out st o h1 hi
    by_cases hc : (out.length : Int) < k ∧ st.2 = false
    · obtain ⟨hk, hw⟩ := hc
      simp only [r2L, if_pos (And.intro hk hw)]
      have h4 : (out.length : Int) ≤ 4 := by omega
      have h4' : out.length ≤ 4 := by omega
      have i1 := r2B_iv hi
      have i2 := r2T_iv i1
      have i3 := r2T_iv i2
      have i4 := (r2N_iv i3).1
      have a1 := r2b_ev (r2C_set2 hpl s st (.rows 4 1 [] :: .rows 4 (out.length + 1) (out.map Mut.c) :: o)) hl
      have a2 := r2t_ev (r2C_set2 hpl s (r2B s st).2 (.rows 4 1 [] :: .rows 4 (out.length + 1) (out.map Mut.c) :: (o ++ [.cells [B (r2B s st).1, T [], T [], I 0]]))) hl i1
      have a3 := r2t_ev (r2C_set2 hpl s (r2T s (r2B s st).2).2 (.rows 4 1 [] :: .rows 4 (out.length + 1) (out.map Mut.c) :: (o ++ [.cells [B (r2B s st).1, T (r2T s (r2B s st).2).1, T [], I 0]]))) hl i2
      have a4 := r2n_ev (r2C_set2 hpl s (r2T s (r2T s (r2B s st).2).2).2 (.rows 4 1 [] :: .rows 4 (out.length + 1) (out.map Mut.c) :: (o ++ [.cells [B (r2B s st).1, T (r2T s (r2B s st).2).1, T (r2T s (r2T s (r2B s st).2).2).1, I 0]]))) hl
      have e1 : IntKind.i64.wrap ((out.length : Int) + 1) = (out.length : Int) + 1 := wrap_i64 (by omega) (by omega)
      obtain ⟨o', ho'⟩ := ih (out ++ [(r2Mut s st).1]) (r2Mut s st).2 (o ++ [.cells ((r2Mut s st).1.c.map .g)]) (by simp; omega) i4
      refine ⟨o', ?_⟩
      rw [loopE_kp _ _ _ _ _ _ (?_ : kpN [0, 3, 4, 5] (evCode (EvF tab) H L47_0 _) = some (.normal, ⟨[(0, .ptr p 0), (3, .ms (H.length + 1) ((out ++ [(r2Mut s st).1]).length + 1) 4 0 (out ++ [(r2Mut s st).1]).length), (4, I k), (5, I (out ++ [(r2Mut s st).1]).length)], [(p, r2C s (r2Mut s st).2)], .rows 4 1 [] :: .rows 4 ((out ++ [(r2Mut s st).1]).length + 1) ((out ++ [(r2Mut s st).1]).map Mut.c) :: (o ++ [.cells ((r2Mut s st).1.c.map .g)])⟩)), ho']
      clear ho' ih
      delta L47_0
      have hst : st = (st.1, false) := by rw [← hw]
      have hrC : r2C s st = .cells [T s, I st.1, B false] := by rw [← hw]; rfl
      have htk : List.take out.length (List.map Mut.c out) = List.map Mut.c out := List.take_of_length_le (by simp)
      have hr1 : out.length + 1 ≤ 140737488355328 := by omega
      have hr2 : (out.length + 1) * 48 ≤ 140737488355328 := by omega
      simp only [r2Mut, seq2]
      rw [hrC] at a1 ⊢
      generalize r2B s st = x1 at a1 a2 a3 a4 ⊢; obtain ⟨v1, s1⟩ := x1; simp only at a1 a2 a3 a4 ⊢
      generalize r2T s s1 = x2 at a2 a3 a4 ⊢; obtain ⟨v2, s2⟩ := x2; simp only at a2 a3 a4 ⊢
      generalize r2T s s2 = x3 at a3 a4 ⊢; obtain ⟨v3, s3⟩ := x3; simp only at a3 a4 ⊢
      generalize r2N s s3 = x4 at a4 ⊢; obtain ⟨v4, s4⟩ := x4; simp only at a4 ⊢
      simp -implicitDefEqProofs [zres, a1, a2, a3, a4, hk, h4, h4', hpl, getB_old, setB_old, orB, updM, Mut.c, chunk, appV, room, hr1, hr2, htk, e1, Nat.not_succ_le_self]
    · simp only [r2L, if_neg hc]
      refine ⟨o, ?_⟩
      refine loopE_out _ _ _ _ _ _ (by simp) ?_
      delta L47_0
      obtain ⟨a, w⟩ := st
      simp only at hc
      by_cases hk : (out.length : Int) < k
      · have hw : w = true := by cases w; exact absurd ⟨hk, rfl⟩ hc; rfl
        subst hw
        simp -implicitDefEqProofs [r2C, hk, hpl, getB_old, orB]
      · simp -implicitDefEqProofs [r2C, hk, hpl, getB_old, orB]
theorem r2muts_ev {H : List Blk} {p : Nat} {s : Bs} {st : R2} (hp : H[p]? = some (r2C s st)) (hl : s.length ≤ 9223372036854775807) (hi : Iv s st) :
    EvF tab 47 [.ptr p 0] H = some ⟨.g (Sl.g 4 Mut.c (slN (r2L (r2Mut s) (r2N s st).1 5 [] (r2N s st).2).1)), [(p, r2C s (r2L (r2Mut s) (r2N s st).1 5 [] (r2N s st).2).2)], []⟩ := by
  have hpl : p < H.length := (List.getElem?_eq_some_iff.1 hp).1
  have hn := r2n_ev (r2C_app hp [.rows 4 1 [], .rows 4 1 []]) hl
  obtain ⟨o', hw⟩ := r2muts_loop hpl hl (r2N s st).1 5 [] (r2N s st).2 [] rfl (r2N_iv hi).1
  refine EvF_walk t47 (by simp) ?_
  simp only [List.length_nil, List.map_nil, Nat.zero_add, show ((0 : Nat) : Int) = 0 from rfl] at hw
  generalize r2L (r2Mut s) (r2N s st).1 5 [] (r2N s st).2 = R at hw ⊢
  obtain ⟨l, s9⟩ := R
  simp only at hw ⊢
  cases l with
  | nil =>
    simp only [List.length_nil, List.map_nil, Nat.zero_add] at hw
    simp -implicitDefEqProofs [hn, hpl, getB_old, setB_old, orB, updM, hw, slN]
  | cons x l =>
    have htk : List.take (x :: l).length (List.map Mut.c (x :: l)) = List.map Mut.c (x :: l) := List.take_of_length_le (by simp)
    simp only [List.map_cons, List.length_cons] at htk hw
    simp -implicitDefEqProofs [hn, hpl, getB_old, setB_old, orB, updM, hw, slN, htk]
end Go.Proofs.Ytenndgooepdmiaa
