/- What the reference lays and takes; what events come to, by both. -/
import Derived.Test.YtibnbcljmfigfaaSHist3
namespace Go.Proofs.Ytibnbcljmfigfaa
open Go Go.AM Go.Proofs
set_option maxRecDepth 20000
set_option maxHeartbeats 1000000
set_option linter.unusedSimpArgs false
set_option linter.unusedVariables false
/-- As the reference takes. -/
def takeF (k : Bs) (b : List KV × Bool) (y : KV) : List KV × Bool := if b.2 = false ∧ y.key = k then (b.1, true) else (b.1 ++ [y], b.2)
theorem takeF_true (k : Bs) : ∀ (l r : List KV), l.foldl (takeF k) (r, true) = (r ++ l, true)
  | [], r => by simp
  | y :: l, r => by
    rw [List.foldl_cons, show takeF k (r, true) y = (r ++ [y], true) by simp [takeF], takeF_true k l]
    simp
theorem takeF_fin (k : Bs) : ∀ (l r : List KV), (l.foldl (takeF k) (r, false)).1 = r ++ takeP l k
  | [], r => by simp [takeP]
  | y :: l, r => by
    rw [List.foldl_cons]
    by_cases h : y.key = k
    · rw [show takeF k (r, false) y = (r, true) by simp [takeF, h], takeF_true]
      simp [takeP, h]
    · rw [show takeF k (r, false) y = (r ++ [y], false) by simp [takeF, h], takeF_fin k l]
      simp [takeP, h]
theorem Take2_ev (s : Sl KV) (k : Bs) (hl : s.l.length ≤ 1000000) (H : List Blk) : EvF tab 51 [.g (KVs.g s), T k] H = some ⟨.g (KVs.g (.of (takeP s.l k))), [], []⟩ := by
  have hw := loop_runJ (E := EvF tab) (h := H) (c := L51_0) (lv := [0, 1, 5, 6, 7]) (l := s.l) (β := List KV × Bool) (γ := Unit) (fun i b => b.1.length ≤ i) (fun i y b => .inl (takeF k b y))
    (fun i b o => ⟨[(0, .g (KVs.g s)), (1, T k), (5, .ms (H.length + 1) (b.1.length + 2) 6 0 b.1.length), (6, B b.2), (7, I i)], [], .rows 6 1 [] :: .rows 6 (b.1.length + 2) (b.1.map KV.c) :: o⟩)
    (fun b o => (.exit 0, ⟨[(0, .g (KVs.g s)), (1, T k), (5, .ms (H.length + 1) (b.1.length + 2) 6 0 b.1.length), (6, B b.2), (7, I s.l.length), (12, B false)], [], .rows 6 1 [] :: .rows 6 (b.1.length + 2) (b.1.map KV.c) :: o⟩))
    (fun _ o => (.ret, ⟨[], [], o⟩)) (by simp) (by simp) (fun i y b o hk hx hy hi => ?_) (fun b o _ => by delta L51_0; cases s <;> simp -implicitDefEqProofs) ([], false) [] (by simp)
  · obtain ⟨o', hw⟩ := hw
    rw [runG_fold] at hw
    have e0 : ((0 : Nat) : Int) = 0 := rfl
    simp only [e0, endJ, List.length_nil, List.map_nil, Nat.zero_add] at hw
    have hf := takeF_fin k s.l []
    rw [List.nil_append] at hf
    refine EvF_walk t51 (by simp) ?_
    rw [← hf]
    generalize s.l.foldl (takeF k) ([], false) = rr at hw ⊢
    obtain ⟨r, b⟩ := rr
    have e3 : List.take r.length (List.map KV.c r) = List.map KV.c r := List.take_of_length_le (by simp)
    simp -implicitDefEqProofs [hw, e3]
  · have e2 := wrap_succ hk (by omega)
    delta L51_0
    cases s with
    | nil => simp at hk
    | of l =>
      simp only [Sl.l_of] at hk hx hy hl ⊢
      obtain ⟨r, bb⟩ := b
      simp only at hi ⊢
      have e3 : List.take r.length (List.map KV.c r) = List.map KV.c r := List.take_of_length_le (by simp)
      unfold takeF
      simp only
      cases bb
      · by_cases h2 : y.key = k
        · refine ⟨by simp [h2]; omega, o, ?_⟩
          simp -implicitDefEqProofs [hk, hy, KV.c, h2, e2]
        · refine ⟨by simp [h2]; omega, o, ?_⟩
          simp -implicitDefEqProofs [hk, hy, KV.c, h2, e2, appV, room, Nat.not_succ_le_self, chunk, show r.length + 1 ≤ 140737488355328 by omega, show (r.length + 1) * 64 ≤ 140737488355328 by omega, e3]
      · refine ⟨by simp; omega, o, ?_⟩
        simp -implicitDefEqProofs [hk, hy, KV.c, e2, appV, room, Nat.not_succ_le_self, chunk, show r.length + 1 ≤ 140737488355328 by omega, show (r.length + 1) * 64 ≤ 140737488355328 by omega, e3]
def cntP (x : KV) : Nat → List KV → Nat
  | i, [] => i
  | i, y :: l => if Op.bytesLess y.key x.key = true then cntP x (i + 1) l else i
theorem cntP_le (x : KV) : ∀ (l : List KV) i, i ≤ cntP x i l ∧ cntP x i l ≤ i + l.length
  | [], i => by simp [cntP]
  | y :: l, i => by
    have := cntP_le x l (i + 1)
    unfold cntP
    split
    · simp only [List.length_cons]; omega
    · simp
theorem layP_cnt (x : KV) : ∀ (l : List KV) i, layP l x = l.take (cntP x i l - i) ++ (x :: (match l.drop (cntP x i l - i) with | [] => [] | y :: r => if y.key = x.key then r else y :: r))
  | [], i => by simp [layP, cntP]
  | y :: l, i => by
    unfold layP cntP
    by_cases h : Op.bytesLess y.key x.key = true
    · simp only [if_pos h]
      have h1 := layP_cnt x l (i + 1)
      have h2 := cntP_le x l (i + 1)
      have e : cntP x (i + 1) l - i = (cntP x (i + 1) l - (i + 1)) + 1 := by omega
      rw [h1, e]; rfl
    · simp only [if_neg h, Nat.sub_self, List.take_zero, List.drop_zero, List.nil_append]
      split <;> rfl
theorem runG_cnt (x : KV) : ∀ (l : List KV) i, runG (fun i (y : KV) (_ : Unit) => if Op.bytesLess y.key x.key = true then .inl () else .inr i) i l () = if cntP x i l = i + l.length then .inl () else (.inr (cntP x i l) : Unit ⊕ Nat) := by
  intro l
  induction l with
  | nil => intro i; simp [runG, cntP]
  | cons y l ih =>
    intro i
    unfold runG cntP
    by_cases h : Op.bytesLess y.key x.key = true
    · simp only [if_pos h]
      rw [ih]
      simp only [List.length_cons]
      rw [show i + 1 + l.length = i + (l.length + 1) by omega]
    · simp only [if_neg h]
      rw [if_neg (by simp only [List.length_cons]; omega)]
theorem Lay2_loop (s : Sl KV) (x : KV) (hl : s.l.length ≤ 1000000) (H : List Blk) :
    loopE (EvF tab) H L52_0 [0, 3, 5] ⟨[(0, .g (KVs.g s)), (3, .ptr H.length 0), (5, I 0)], [], [.cells (x.c.map .g), .rows 6 1 []]⟩ =
      some (.exit 0, ⟨[(0, .g (KVs.g s)), (3, .ptr H.length 0), (5, I (cntP x 0 s.l)), (20, B false)], [], [.cells (x.c.map .g), .rows 6 1 []]⟩) := by
  have hw := loop_runJ (E := EvF tab) (h := H) (c := L52_0) (lv := [0, 3, 5]) (l := s.l) (β := Unit) (γ := Nat) (fun _ _ => True) (fun i (y : KV) _ => if Op.bytesLess y.key x.key = true then .inl () else .inr i)
    (fun i _ o => ⟨[(0, .g (KVs.g s)), (3, .ptr H.length 0), (5, I i)], [], [.cells (x.c.map .g), .rows 6 1 []]⟩) (fun _ o => (.exit 0, ⟨[(0, .g (KVs.g s)), (3, .ptr H.length 0), (5, I s.l.length), (20, B false)], [], [.cells (x.c.map .g), .rows 6 1 []]⟩))
    (fun i o => (.exit 0, ⟨[(0, .g (KVs.g s)), (3, .ptr H.length 0), (5, I i), (20, B false)], [], [.cells (x.c.map .g), .rows 6 1 []]⟩)) (by simp) (by simp) (fun i y b o hk hx hy _ => ?_) (fun _ o _ => by delta L52_0; cases s <;> simp -implicitDefEqProofs) () [] trivial
  · obtain ⟨o', hw⟩ := hw
    rw [runG_cnt] at hw
    have e0 : ((0 : Nat) : Int) = 0 := rfl
    simp only [e0, Nat.zero_add] at hw
    rw [hw]
    by_cases h : cntP x 0 s.l = s.l.length
    · rw [if_pos h, h]; rfl
    · rw [if_neg h]; rfl
  · have e2 := wrap_succ hk (by omega)
    delta L52_0
    cases s with
    | nil => simp at hk
    | of l =>
      simp only [Sl.l_of] at hk hx hy hl ⊢
      cases h : Op.bytesLess y.key x.key
      · simp only [Bool.false_eq_true, if_false]
        refine ⟨o, ?_⟩
        simp -implicitDefEqProofs [hk, hy, KV.c, h]
      · simp only [if_true]
        refine ⟨trivial, o, ?_⟩
        simp -implicitDefEqProofs [hk, hy, KV.c, h, e2]
theorem app_own2 {sz bytes g : Nat} (xs ys : List (List GV)) (h1 : xs.length + ys.length ≤ 140737488355328) (h2 : (xs.length + ys.length) * bytes ≤ 140737488355328) (b0 b1 : Blk) (H : List Blk) :
    ∃ g' W, g ≤ g' ∧ ∀ t m, appV H ⟨t, m, [b0, b1, .rows sz g xs]⟩ sz bytes (.ms (H.length + 2) g sz 0 xs.length) ys = some (.ms (H.length + 2) g' sz 0 (xs.length + ys.length), ⟨t, m, [b0, b1, .rows sz g' (xs ++ ys)]⟩, W) := by
  by_cases hne : ys = []
  · subst hne
    exact ⟨g, [], Nat.le_refl _, fun t m => by simp -implicitDefEqProofs [appV]⟩
  · exact ⟨g + 1, [H.length + 2], by omega, fun t m => app_grow hne h1 h2 H t m [b0, b1]⟩
theorem Lay2_ev (s : Sl KV) (x : KV) (hl : s.l.length ≤ 1000000) (H : List Blk) : EvF tab 52 [.g (KVs.g s), A x.c] H = some ⟨.g (KVs.g (.of (layP s.l x))), [], []⟩ := by
  have hw := Lay2_loop s x hl H
  have hq := layP_cnt x s.l 0
  have hle := cntP_le x s.l 0
  rw [Nat.sub_zero] at hq
  refine EvF_walk t52 (by simp) ?_
  cases s with
  | nil =>
    simp only [KVs.g, Sl.g_nil, Sl.l_nil, cntP, KV.c, List.map_cons, List.map_nil, show ((0 : Nat) : Int) = 0 from rfl, layP] at hw hq ⊢
    simp -implicitDefEqProofs [A, KV.c, hw, appV, room, chunk, cutB, bnd, intOfA]
  | of l =>
    simp only [KVs.g, Sl.g_of, Sl.l_of, Nat.zero_add] at hw hq hl hle ⊢
    generalize cntP x 0 l = c at hw hq hle
    have hcl : c ≤ l.length := hle.2
    obtain ⟨u, hu⟩ : ∃ u, l.take c = u := ⟨_, rfl⟩
    obtain ⟨v, hv⟩ : ∃ v, l.drop c = v := ⟨_, rfl⟩
    have hul : u.length = c := by rw [← hu]; simp; omega
    have hlen : l.length = c + v.length := by rw [← hv, List.length_drop]; omega
    rw [hv, hu] at hq
    have e1 : IntKind.i64.wrap ((c : Int) + 1) = (c : Int) + 1 := wrap_i64 (by omega) (by omega)
    have e2 : ((c : Int) + 1).toNat = c + 1 := by omega
    have e3 : List.take c (List.map KV.c l) = List.map KV.c u := by rw [← List.map_take, hu]
    have e4 : List.take l.length (List.map KV.c l) = List.map KV.c l := List.take_of_length_le (by simp)
    have e5 : List.drop c (List.map KV.c l) = List.map KV.c v := by rw [← List.map_drop, hv]
    have e6 : List.drop (c + 1) (List.map KV.c l) = List.map KV.c (v.drop 1) := by rw [← List.map_drop, ← List.drop_drop, hv]
    have c1 : (c : Int) ≤ (l.length : Int) := by omega
    have c2 : (0 : Int) ≤ (c : Int) := by omega
    have c3 : (0 : Int) ≤ (c : Int) + 1 := by omega
    obtain ⟨w, hwv⟩ : ∃ w, (match v with | [] => [] | y :: r => if y.key = x.key then r else y :: r) = w := ⟨_, rfl⟩
    have hwl : w.length ≤ v.length := by rw [← hwv]; split; exact Nat.le_refl _; split <;> simp
    rw [hwv] at hq
    rw [hq]
    obtain ⟨g1, W1, k1, ap1⟩ := app_own2 (sz := 6) (bytes := 64) (g := 2) [] (u.map KV.c) (by simp; omega) (by simp; omega) (.cells (x.c.map .g)) (.rows 6 1 []) H
    obtain ⟨g2, W2, k2, ap2⟩ := app_own2 (sz := 6) (bytes := 64) (g := g1) (u.map KV.c) [x.c] (by simp; omega) (by simp; omega) (.cells (x.c.map .g)) (.rows 6 1 []) H
    obtain ⟨g3, W3, k3, ap3⟩ := app_own2 (sz := 6) (bytes := 64) (g := g2) (u.map KV.c ++ [x.c]) (w.map KV.c) (by simp; omega) (by simp; omega) (.cells (x.c.map .g)) (.rows 6 1 []) H
    simp only [List.length_nil, List.nil_append, Nat.zero_add, List.length_map, List.length_append, List.length_cons, List.append_assoc, List.cons_append, hul] at ap1 ap2 ap3
    have hz : List.take (c + 1 + w.length) (List.map KV.c u ++ KV.c x :: List.map KV.c w) = List.map KV.c u ++ KV.c x :: List.map KV.c w := List.take_of_length_le (by simp; omega)
    have hg3 : ¬ g3 = 1 := by omega
    simp only [KV.c, List.map_cons, List.map_nil] at hw
    cases v with
    | nil =>
      have hc : c = l.length := by simpa using hlen.symm
      have hge : ¬ (c : Int) < (l.length : Int) := by omega
      simp only at hwv
      subst hwv
      simp only [List.map_nil, List.length_nil, Nat.add_zero, KV.c, List.map_cons] at ap1 ap2 ap3 hz e3 e5
      subst hc
      have e7 : List.drop l.length (List.map KV.c u) = [] := List.drop_eq_nil_of_le (by simp; omega)
      simp -implicitDefEqProofs [A, KV.c, hw, e7, ap1, ap2, ap3, hz, hg3, chunk, cutB, bnd, intOfA, e1, e2, e3, e4, e5, c1, c2, hge]
      omega
    | cons y r =>
      have hlt : c < l.length := by rw [hlen]; simp
      have hgy : l[c]? = some y := by
        have := List.getElem?_drop (xs := l) (i := c) (j := 0)
        rw [hv] at this; simpa using this.symm
      have hgy2 : l[c] = y := by have := List.getElem?_eq_getElem hlt; rw [hgy] at this; exact (Option.some.inj this).symm
      have hltI : (c : Int) < (l.length : Int) := by omega
      have hltJ : (c : Int) + 1 ≤ (l.length : Int) := by omega
      simp only [List.drop_succ_cons, List.drop_zero] at e6
      by_cases hk : y.key = x.key
      · simp only [if_pos hk] at hwv
        subst hwv
        simp only [KV.c, List.map_cons, List.map_nil] at ap1 ap2 ap3 hz e3 e6
        simp -implicitDefEqProofs [A, KV.c, hw, ap1, ap2, ap3, hz, hg3, hk, hlt, hltI, hltJ, hgy, hgy2, chunk, cutB, bnd, intOfA, e1, e2, e3, e4, e6, c1, c2, c3]
        omega
      · simp only [if_neg hk] at hwv
        subst hwv
        simp only [KV.c, List.map_cons, List.map_nil, List.length_cons] at ap1 ap2 ap3 hz e3 e5
        simp -implicitDefEqProofs [A, KV.c, hw, ap1, ap2, ap3, hz, hg3, hk, hlt, hltI, hgy, hgy2, chunk, cutB, bnd, intOfA, e1, e2, e3, e4, e5, c1, c2, c3]
        omega
end Go.Proofs.Ytibnbcljmfigfaa
