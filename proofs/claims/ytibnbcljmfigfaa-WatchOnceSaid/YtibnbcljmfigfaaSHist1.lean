/- Keys, things, lists of things: what the program and the reference say of them. -/
import Derived.Test.YtibnbcljmfigfaaTabA
import Derived.Test.YtibnbcljmfigfaaAMJ4
import Derived.KernelRfl
namespace Go.Proofs.Ytibnbcljmfigfaa
open Go Go.AM Go.Proofs
set_option maxRecDepth 20000
set_option maxHeartbeats 1000000
set_option linter.unusedSimpArgs false
set_option linter.unusedVariables false
def byteOk (b : UInt8) : Bool := decide (33 ≤ b.toNat) && decide (b.toNat ≤ 126)
def keyOk (k : Bs) : Bool := (decide (1 ≤ k.length) && decide (k.length ≤ 40)) && k.all byteOk
theorem Check1_ev (b : UInt8) (H : List Blk) : EvF tab 104 [.g (.int .u8 b.toNat)] H = some ⟨B (byteOk b), [], []⟩ := by
  refine EvF_walk t104 (by simp) ?_
  unfold byteOk
  by_cases h1 : 33 ≤ b.toNat
  · by_cases h2 : b.toNat ≤ 126
    · simp -implicitDefEqProofs [h1, h2, show (32 : Int) < (b.toNat : Int) by omega, show (b.toNat : Int) ≤ 126 by omega]
    · simp -implicitDefEqProofs [h1, h2, show (32 : Int) < (b.toNat : Int) by omega, show ¬ (b.toNat : Int) ≤ 126 by omega]
  · simp -implicitDefEqProofs [h1, show ¬ (32 : Int) < (b.toNat : Int) by omega]
theorem each_loop (k : Bs) (hl : k.length ≤ 9223372036854775807) (H : List Blk) :
    loopE (EvF tab) H L103_0 [2, 18, 19, 20] ⟨[(2, .g (.fn 104)), (18, .g (.sl 1 (bytesG k))), (19, I k.length), (20, I 0)], [], []⟩ =
      some (if allP byteOk k = true then (.exit 0, ⟨[(2, .g (.fn 104)), (18, .g (.sl 1 (bytesG k))), (19, I k.length), (20, I k.length), (21, B false)], [], []⟩) else (.ret, ⟨[(6, B false)], [], []⟩)) := by
  refine loop_all0 (l := k) byteOk (fun i => ⟨[(2, .g (.fn 104)), (18, .g (.sl 1 (bytesG k))), (19, I k.length), (20, I i)], [], []⟩) _ _ (by simp) (by simp) (fun i x hk hx hy => ?_) (by delta L103_0; simp -implicitDefEqProofs)
  delta L103_0
  have e2 := wrap_succ hk hl
  have hel : (bytesG k)[i]? = some [.int .u8 x.toNat] := by unfold bytesG; rw [List.getElem?_map, hx]; rfl
  have h1 := Check1_ev x
  generalize byteOk x = b at h1 ⊢
  cases b <;> simp -implicitDefEqProofs [hk, hel, h1, e2]
theorem Check_ev (k : Bs) (hl : k.length ≤ 9223372036854775807) (H : List Blk) : EvF tab 83 [T k] H = some ⟨B (keyOk k), [], []⟩ := by
  have he : ∀ H, EvF tab 103 [T k, I 40, .g (.fn 104)] H = some ⟨B (keyOk k), [], []⟩ := fun H => by
    have hw := each_loop k hl H
    refine EvF_walk t103 (by simp) ?_
    unfold keyOk
    rw [show k.all byteOk = allP byteOk k from rfl]
    have hb : (bytesG k).length = k.length := bytesG_len k
    by_cases h0 : k = []
    · subst h0; simp -implicitDefEqProofs
    · have h1 : 1 ≤ k.length := List.length_pos_iff.2 h0
      by_cases h2 : k.length ≤ 40
      · cases hs : allP byteOk k <;> rw [hs] at hw <;> simp only [Bool.false_eq_true, if_true, if_false] at hw
        all_goals simp -implicitDefEqProofs [h0, h1, h2, hb, hw, show ¬ (40 : Int) < (k.length : Int) by omega]
      · simp -implicitDefEqProofs [h0, h2, show (40 : Int) < (k.length : Int) by omega]
  refine EvF_walk t83 (by simp) ?_
  generalize keyOk k = b at he ⊢
  simp -implicitDefEqProofs [he]
theorem Check2_loop (k : Bs) (hl : k.length ≤ 9223372036854775807) (H : List Blk) :
    loopE (EvF tab) H L118_0 [0, 3] ⟨[(0, T k), (3, I 0)], [], []⟩ =
      some (if allP byteOk k = true then (.exit 0, ⟨[(0, T k), (3, I k.length), (15, B false)], [], []⟩) else (.ret, ⟨[(2, B false)], [], []⟩)) := by
  refine loop_all0 (l := k) byteOk (fun i => ⟨[(0, T k), (3, I i)], [], []⟩) _ _ (by simp) (by simp) (fun i x hk hx hy => ?_) (by delta L118_0; simp -implicitDefEqProofs)
  delta L118_0
  have e2 := wrap_succ hk hl
  unfold byteOk
  by_cases h1 : 33 ≤ x.toNat
  · by_cases h2 : x.toNat ≤ 126
    · simp -implicitDefEqProofs [hk, hx, hy, h1, h2, e2, show ¬ (x.toNat : Int) < 33 by omega, show ¬ (126 : Int) < (x.toNat : Int) by omega]
    · simp -implicitDefEqProofs [hk, hx, hy, h1, h2, e2, show ¬ (x.toNat : Int) < 33 by omega, show (126 : Int) < (x.toNat : Int) by omega]
  · simp -implicitDefEqProofs [hk, hx, hy, h1, e2, show (x.toNat : Int) < 33 by omega]
theorem Check2_ev (k : Bs) (hl : k.length ≤ 9223372036854775807) (H : List Blk) : EvF tab 118 [T k] H = some ⟨B (keyOk k), [], []⟩ := by
  have hw := Check2_loop k hl H
  refine EvF_walk t118 (by simp) ?_
  unfold keyOk
  rw [show k.all byteOk = allP byteOk k from rfl]
  by_cases h1 : 1 ≤ k.length
  · by_cases h2 : k.length ≤ 40
    · cases hs : allP byteOk k <;> rw [hs] at hw <;> simp only [Bool.false_eq_true, if_true, if_false] at hw
      all_goals simp -implicitDefEqProofs [h1, h2, hw, show ¬ (k.length : Int) < 1 by omega, show ¬ (40 : Int) < (k.length : Int) by omega]
    · simp -implicitDefEqProofs [h1, h2, show ¬ (k.length : Int) < 1 by omega, show (40 : Int) < (k.length : Int) by omega]
  · simp -implicitDefEqProofs [h1, show (k.length : Int) < 1 by omega]
def numL (n least : Int) : Bool := decide (least ≤ n) && decide (n ≤ 1099511627775)
def oneOk (x : KV) : Bool := keyOk x.key && (decide (x.value.length ≤ 20) && (numL x.create 1 && (numL x.mod x.create && (decide (1 ≤ x.version) && (decide (x.version ≤ x.mod - x.create + 1) && numL x.lease 0)))))
theorem One2_ev (x : KV) (hl : x.key.length ≤ 9223372036854775807) (H : List Blk) : EvF tab 97 [A x.c] H = some ⟨B (oneOk x), [], []⟩ := by
  have h1 := Check2_ev x.key hl
  refine EvF_walk t97 (by simp) ?_
  unfold oneOk
  generalize keyOk x.key = b1 at h1 ⊢
  cases b1
  · simp -implicitDefEqProofs [A, KV.c, h1]
  by_cases hv : x.value.length ≤ 20
  case neg => simp -implicitDefEqProofs [A, KV.c, h1, hv, show (20 : Int) < (x.value.length : Int) by omega]
  have hv' : ¬ (20 : Int) < (x.value.length : Int) := by omega
  unfold numL
  by_cases c1 : 1 ≤ x.create
  case neg => simp -implicitDefEqProofs [A, KV.c, h1, hv, hv', c1, show x.create < 1 by omega]
  by_cases c2 : x.create ≤ 1099511627775
  case neg => simp -implicitDefEqProofs [A, KV.c, h1, hv, hv', c1, c2, show ¬ x.create < 1 by omega, show 1099511627775 < x.create by omega]
  have c1' : ¬ x.create < 1 := by omega
  have c2' : ¬ 1099511627775 < x.create := by omega
  by_cases c3 : x.create ≤ x.mod
  case neg => simp -implicitDefEqProofs [A, KV.c, h1, hv, hv', c1, c2, c1', c2', c3]
  by_cases c4 : x.mod ≤ 1099511627775
  case neg => simp -implicitDefEqProofs [A, KV.c, h1, hv, hv', c1, c2, c1', c2', c3, c4]
  have w1 : IntKind.i64.wrap (x.mod - x.create) = x.mod - x.create := wrap_i64 (by omega) (by omega)
  have w2 : IntKind.i64.wrap (x.mod - x.create + 1) = x.mod - x.create + 1 := wrap_i64 (by omega) (by omega)
  by_cases h5 : 1 ≤ x.version
  case neg => simp -implicitDefEqProofs [A, KV.c, h1, hv, hv', c1, c2, c1', c2', c3, c4, h5]
  by_cases h6 : x.version ≤ x.mod - x.create + 1
  case neg => simp -implicitDefEqProofs [A, KV.c, h1, hv, hv', c1, c2, c1', c2', c3, c4, h5, w1, w2, h6]
  by_cases h7 : 0 ≤ x.lease
  case neg => simp -implicitDefEqProofs [A, KV.c, h1, hv, hv', c1, c2, c1', c2', c3, c4, h5, w1, w2, h6, h7]
  simp -implicitDefEqProofs [A, KV.c, h1, hv, hv', c1, c2, c1', c2', c3, c4, h5, w1, w2, h6, h7]
/-! ### Find -/
def findN (k : Bs) : Nat → List KV → Option Nat
  | _, [] => none
  | i, x :: l => if x.key = k then some i else findN k (i + 1) l
def kv0 : KV := ⟨[], [], 0, 0, 0, 0⟩
def findX (l : List KV) (k : Bs) : KV := match findN k 0 l with | some i => l[i]?.getD kv0 | none => kv0
def findB (l : List KV) (k : Bs) : Bool := (findN k 0 l).isSome
def findI (l : List KV) (k : Bs) : Int := match findN k 0 l with | some i => i | none => -1
theorem findN_spec (k : Bs) : ∀ (l : List KV) i j, findN k i l = some j → i ≤ j ∧ ∃ (h : j - i < l.length), l[j - i].key = k := by
  intro l
  induction l with
  | nil => intro i j h; simp [findN] at h
  | cons x l ih =>
    intro i j h
    unfold findN at h
    split at h
    · cases h; rename_i hk; exact ⟨Nat.le_refl _, by simp, by simp [hk]⟩
    · obtain ⟨h1, h2, h3⟩ := ih (i + 1) j h
      refine ⟨by omega, by simp; omega, ?_⟩
      have e : j - i = (j - (i + 1)) + 1 := by omega
      simp only [e, List.getElem_cons_succ]; exact h3
theorem find_some {k : Bs} {l : List KV} {i : Nat} (h : findN k 0 l = some i) : ∃ h : i < l.length, l[i].key = k := by
  obtain ⟨_, h2⟩ := findN_spec k l 0 i h
  simpa using h2
theorem idxG_find (k : Bs) : ∀ (l : List KV) i, idxG (fun x : KV => x.key == k) i l = match findN k i l with | some j => (j : Int) | none => -1 := by
  intro l
  induction l with
  | nil => intro i; rfl
  | cons x l ih =>
    intro i
    by_cases h : x.key = k
    · simp [idxG, findN, h]
    · simp only [idxG, findN, h, if_false]
      rw [← ih]; simp [h]
theorem is1_ev (x : KV) (k : Bs) {H : List Blk} {p : Nat} (hp : H[p]? = some (.cells [T k])) : EvF tab 119 [A x.c, .ptr p 0] H = some ⟨B (x.key == k), [], []⟩ := by
  refine EvF_walk t119 (by simp) ?_
  have hpl : p < H.length := (List.getElem?_eq_some_iff.1 hp).1
  have hp2 := (List.getElem?_eq_some_iff.1 hp).2
  simp -implicitDefEqProofs [A, KV.c, hp2, hpl, getB_old, orB]
theorem is_ev (k : Bs) (H : List Blk) : EvF tab 101 [T k] H = some ⟨.fv 119 [.ptr H.length 0], [], [.cells [T k]]⟩ := by
  refine EvF_walk t101 (by simp) ?_
  simp -implicitDefEqProofs
theorem idx_ev (s : Sl KV) (k : Bs) (hl : s.l.length ≤ 9223372036854775807) {H : List Blk} {p : Nat} (hp : H[p]? = some (.cells [T k])) :
    EvF tab 100 [.g (KVs.g s), .fv 119 [.ptr p 0]] H = some ⟨I (findI s.l k), [], []⟩ := by
  have := index_ev (Tb := tab) (f := 100) (agg := true) (n := 6) (c := KV.c) t100 (fun x => A x.c) (fun x : KV => x.key == k) (.fv 119 [.ptr p 0]) s hl H (fun x => by simp [A, KV.c]) (fun x _ t => by
    have h1 := is1_ev x k hp
    simp -implicitDefEqProofs [h1])
  rw [idxG_find] at this
  exact this
theorem Find_ev (s : Sl KV) (k : Bs) (hl : s.l.length ≤ 9223372036854775807) (H : List Blk) : EvF tab 84 [.g (KVs.g s), T k] H = some ⟨.tup [A (findX s.l k).c, B (findB s.l k)], [], []⟩ := by
  refine EvF_walk t84 (by simp) ?_
  have hi := fun H => is_ev k H
  have hx := fun (b : Blk) => idx_ev s k hl (H := H ++ [b, .cells [T k]]) (p := H.length + 1) (by rw [List.getElem?_append_right (by omega)]; simp)
  unfold findX findB
  unfold findI at hx
  rcases hq : findN k 0 s.l with _ | i <;> simp only [hq] at hx ⊢
  · simp -implicitDefEqProofs [zres, A, KV.c, kv0, hi, hx]
  · obtain ⟨h1, h2⟩ := find_some hq
    cases s with
    | nil => simp at h1
    | of l =>
      simp only [Sl.l_of, KVs.g, Sl.g_of] at h1 hx ⊢
      have hg : l[i]? = some l[i] := List.getElem?_eq_getElem h1
      rw [hg]
      simp -implicitDefEqProofs [zres, A, KV.c, hi, hx, hg, h1]
theorem runG_find (k : Bs) : ∀ (l : List KV) i, runG (fun i (x : KV) (_ : Unit) => if x.key = k then .inr i else .inl ()) i l () = match findN k i l with | some j => .inr j | none => (.inl () : Unit ⊕ Nat) := by
  intro l
  induction l with
  | nil => intro i; rfl
  | cons x l ih =>
    intro i
    by_cases h : x.key = k
    · simp [runG, findN, h]
    · simp only [runG, findN, h, if_false]
      exact ih _
theorem Find2_ev (s : Sl KV) (k : Bs) (hl : s.l.length ≤ 9223372036854775807) (H : List Blk) : EvF tab 98 [.g (KVs.g s), T k] H = some ⟨.tup [A (findX s.l k).c, B (findB s.l k)], [], []⟩ := by
  have hw := loop_runJ (E := EvF tab) (h := H) (c := L98_0) (lv := [0, 1, 4, 6]) (l := s.l) (β := Unit) (γ := Nat) (fun _ _ => True) (fun i (x : KV) _ => if x.key = k then .inr i else .inl ())
    (fun i _ o => ⟨[(0, .g (KVs.g s)), (1, T k), (4, .ptr H.length 0), (6, I i)], [], .cells [T [], T [], I 0, I 0, I 0, I 0] :: o⟩) (fun _ o => (.exit 0, ⟨[(0, .g (KVs.g s)), (1, T k), (4, .ptr H.length 0), (6, I s.l.length), (10, B false)], [], .cells [T [], T [], I 0, I 0, I 0, I 0] :: o⟩))
    (fun i o => (.ret, ⟨[(4, .ptr H.length 0), (5, B true)], [], .cells (((s.l[i]?).getD kv0).c.map .g) :: o⟩)) (by simp) (by simp) (fun i x b o hk hx hy _ => ?_) (fun _ o _ => by delta L98_0; cases s <;> simp -implicitDefEqProofs) () [] trivial
  · obtain ⟨o', hw⟩ := hw
    rw [runG_find] at hw
    have e0 : ((0 : Nat) : Int) = 0 := rfl
    simp only [e0] at hw
    refine EvF_walk t98 (by simp) ?_
    unfold findX findB
    rcases hq : findN k 0 s.l with _ | i <;> simp only [hq, endJ] at hw ⊢
    · simp -implicitDefEqProofs [zres, A, KV.c, kv0, hw]
    · generalize s.l[i]?.getD kv0 = x at hw ⊢
      simp only [KV.c, List.map_cons, List.map_nil] at hw
      simp -implicitDefEqProofs [zres, A, KV.c, hw]
  · have e2 := wrap_succ hk hl
    delta L98_0
    cases s with
    | nil => simp at hk
    | of l =>
      simp only [Sl.l_of] at hk hx hy ⊢
      by_cases h : x.key = k
      · simp only [if_pos h]
        refine ⟨o, ?_⟩
        rw [hx]
        simp -implicitDefEqProofs [hk, hy, KV.c, h, kv0]
      · simp only [if_neg h]
        refine ⟨trivial, o, ?_⟩
        simp -implicitDefEqProofs [hk, hy, KV.c, h, e2]
end Go.Proofs.Ytibnbcljmfigfaa
