/- What is laid into a list, and taken out of it, by the program and by the reference. -/
import Derived.Test.YtibnbcljmfigfaaPHist
namespace Go.Proofs.Ytibnbcljmfigfaa
open Go Go.AM Go.Proofs
set_option maxRecDepth 20000
set_option maxHeartbeats 1000000
set_option linter.unusedSimpArgs false
set_option linter.unusedVariables false
theorem runG_fold {α β : Type} (f : β → α → β) : ∀ (l : List α) (k : Nat) (b : β), runG (γ := Unit) (fun k (x : α) b => .inl (f b x)) k l b = .inl (l.foldl f b) := by
  intro l
  induction l with
  | nil => intro k b; simp [runG]
  | cons x l ih => intro k b; simp only [runG, ih]; simp
theorem Lay_ev (s : Sl KV) (x : KV) (hl : s.l.length ≤ 1000000) (H : List Blk) : EvF tab 82 [.g (KVs.g s), A x.c] H = some ⟨.g (KVs.g (.of (layP s.l x))), [], []⟩ := by
  have hw := loop_runJ (E := EvF tab) (h := H) (c := L82_0) (lv := [3, 5, 6, 9, 10, 11]) (l := s.l) (β := List KV × Bool) (γ := Unit) (fun k b => b.1.length ≤ 2 * k) (fun k y b => .inl (layF x b y))
    (fun k b o => ⟨[(3, .ptr H.length 0), (5, .ms (H.length + 2) (k + 1) 6 0 b.1.length), (6, B b.2), (9, .g (KVs.g s)), (10, I s.l.length), (11, I k)], [], .cells (x.c.map .g) :: .rows 6 1 [] :: .rows 6 (k + 1) (b.1.map KV.c) :: o⟩)
    (fun b o => (.exit 0, ⟨[(3, .ptr H.length 0), (5, .ms (H.length + 2) (s.l.length + 1) 6 0 b.1.length), (6, B b.2), (9, .g (KVs.g s)), (10, I s.l.length), (11, I s.l.length), (12, B false)], [], .cells (x.c.map .g) :: .rows 6 1 [] :: .rows 6 (s.l.length + 1) (b.1.map KV.c) :: o⟩))
    (fun _ o => (.ret, ⟨[], [], o⟩)) (by simp) (by simp) (fun k y b o hk hx hy hi => ?_) (fun b o _ => by delta L82_0; cases s <;> simp -implicitDefEqProofs) ([], false) [] (by simp)
  · obtain ⟨o', hw⟩ := hw
    rw [runG_fold] at hw
    have e0 : ((0 : Nat) : Int) = 0 := rfl
    simp only [e0, endJ, List.length_nil, List.map_nil, Nat.zero_add] at hw
    have hf := layF_fin x s.l []
    have hlen := layP_len x s.l
    have hne := layP_ne s.l x
    rw [List.nil_append] at hf
    refine EvF_walk t82 (by simp) ?_
    obtain ⟨rr, hr⟩ : ∃ r, s.l.foldl (layF x) ([], false) = r := ⟨_, rfl⟩
    rw [hr] at hw hf
    obtain ⟨r, b⟩ := rr
    simp only at hf hw
    have e3 : List.take r.length (List.map KV.c r) = List.map KV.c r := List.take_of_length_le (by simp)
    simp only [KV.c, List.map_cons, List.map_nil] at hw
    cases b
    · simp only [Bool.false_eq_true, if_false] at hf
      rw [← hf] at hlen ⊢
      simp only [List.length_append, List.length_cons, List.length_nil] at hlen
      have e4 : List.take (r.length + 1) (List.map KV.c r ++ [KV.c x]) = List.map KV.c r ++ [KV.c x] := List.take_of_length_le (by simp)
      simp only [KV.c, List.map_append, List.map_cons, List.map_nil] at e3 e4 ⊢
      simp -implicitDefEqProofs [A, KV.c, hw, chunk, appV, room, Nat.not_succ_le_self, show r.length + 1 ≤ 140737488355328 by omega, show (r.length + 1) * 64 ≤ 140737488355328 by omega, e3, e4]
    · simp only [if_true] at hf
      subst hf
      have hn : ¬ s.l = [] := by
        intro h0
        rw [h0] at hr; simp at hr
      simp -implicitDefEqProofs [A, KV.c, hw, e3, hn]
  · have e2 := wrap_succ hk (by omega)
    delta L82_0
    cases s with
    | nil => simp at hk
    | of l =>
      simp only [Sl.l_of] at hk hx hy hl ⊢
      obtain ⟨r, bb⟩ := b
      simp only at hi ⊢
      have e3 : List.take r.length (List.map KV.c r) = List.map KV.c r := List.take_of_length_le (by simp)
      unfold layF
      simp only
      cases bb
      · cases h1 : Op.bytesLess y.key x.key
        · by_cases h2 : y.key = x.key
          · refine ⟨by simp [h2, bl_irrefl]; omega, o ++ [.cells (y.c.map .g)], ?_⟩
            simp -implicitDefEqProofs [hk, hy, KV.c, h1, h2, bl_irrefl, e2, appV, room, Nat.not_succ_le_self, chunk, show r.length + 1 ≤ 140737488355328 by omega, show (r.length + 1) * 64 ≤ 140737488355328 by omega, e3]
          · refine ⟨by simp [h2]; omega, o ++ [.cells (y.c.map .g)], ?_⟩
            simp -implicitDefEqProofs [hk, hy, KV.c, h1, h2, e2, appV, room, Nat.not_succ_le_self, chunk, show r.length + 2 ≤ 140737488355328 by omega, show (r.length + 2) * 64 ≤ 140737488355328 by omega, show ¬ r.length + 2 ≤ r.length by omega, e3]
        · refine ⟨by simp; omega, o ++ [.cells (y.c.map .g)], ?_⟩
          simp -implicitDefEqProofs [hk, hy, KV.c, h1, e2, appV, room, Nat.not_succ_le_self, chunk, show r.length + 1 ≤ 140737488355328 by omega, show (r.length + 1) * 64 ≤ 140737488355328 by omega, e3]
      · refine ⟨by simp; omega, o ++ [.cells (y.c.map .g)], ?_⟩
        simp -implicitDefEqProofs [hk, hy, KV.c, e2, appV, room, Nat.not_succ_le_self, chunk, show r.length + 1 ≤ 140737488355328 by omega, show (r.length + 1) * 64 ≤ 140737488355328 by omega, e3]
theorem Clone_ev (s : Sl KV) (hl : s.l.length ≤ 1000000) (H : List Blk) : EvF tab 50 [.g (KVs.g s)] H = some ⟨.g (KVs.g s), [], []⟩ := by
  refine EvF_walk t50 (by simp) ?_
  cases s with
  | nil => simp -implicitDefEqProofs
  | of l =>
    simp only [Sl.l_of] at hl
    cases l with
    | nil => simp -implicitDefEqProofs [appV]
    | cons y l =>
      simp only [List.length_cons] at hl
      have e3 : List.take (l.length + 1) (KV.c y :: List.map KV.c l) = KV.c y :: List.map KV.c l := List.take_of_length_le (by simp)
      simp -implicitDefEqProofs [appV, room, show l.length + 1 ≤ 140737488355328 by omega, show (l.length + 1) * 64 ≤ 140737488355328 by omega, e3]
theorem concatT : ∃ m msg m' msg', tab.T 102 = some (concatF 6 64 120 m msg) ∧ tab.T 120 = some (growF 6 64 [.str [], .str [], .int .i64 0, .int .i64 0, .int .i64 0, .int .i64 0] m' msg') :=
  ⟨_, _, _, _, t102, t120⟩
theorem concatK_ev (a b : Sl KV) (hn : a.l.length + b.l.length ≤ 1000000) (H : List Blk) :
    EvF tab 102 [.g (.sl 1 [[KVs.g a], [KVs.g b]])] H = some ⟨.g (nslG 6 KV.c (a.l ++ b.l)), [], []⟩ := by
  obtain ⟨m, msg, m', msg', h1, h2⟩ := concatT
  exact concat_ev h1 h2 a b (by omega) (by omega) H
theorem Take_ev (s : Sl KV) (k : Bs) (hl : s.l.length ≤ 1000000) (H : List Blk) : EvF tab 81 [.g (KVs.g s), T k] H = some ⟨.g (KVs.g (takeR s k)), [], []⟩ := by
  refine EvF_walk t81 (by simp) ?_
  have hi := fun H => is_ev k H
  have hx := fun (b : Blk) => idx_ev s k (by omega) (H := H ++ [b, .cells [T k]]) (p := H.length + 1) (by rw [List.getElem?_append_right (by omega)]; simp)
  have hc := fun H => Clone_ev s hl H
  unfold takeR
  unfold findI at hx
  rcases hq : findN k 0 s.l with _ | i <;> simp only [hq] at hx ⊢
  · simp -implicitDefEqProofs [hi, hx, hc]
  · obtain ⟨h1, h2⟩ := find_some hq
    cases s with
    | nil => simp at h1
    | of l =>
      simp only [Sl.l_of, KVs.g, Sl.g_of] at h1 hx hl ⊢
      have cc := fun H => concatK_ev (.of (l.take i)) (.of (l.drop (i + 1))) (by simp; omega) H
      simp only [KVs.g, Sl.g_of, Sl.l_of, nslG_slOf, List.map_take, List.map_drop] at cc
      have e1 : IntKind.i64.wrap ((i : Int) + 1) = (i : Int) + 1 := wrap_i64 (by omega) (by omega)
      have e2 : ((i : Int) + 1).toNat = i + 1 := by omega
      have e3 : List.take l.length (List.map KV.c l) = List.map KV.c l := List.take_of_length_le (by simp)
      simp -implicitDefEqProofs [hi, hx, cc, cutB, bnd, intOfA, e1, e2, e3, show i ≤ l.length by omega, show i + 1 ≤ l.length by omega, show (i : Int) ≤ l.length by omega, show (i : Int) + 1 ≤ l.length by omega, show (0 : Int) ≤ (i : Int) + 1 by omega, chunk]
end Go.Proofs.Ytibnbcljmfigfaa
