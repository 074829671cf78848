/- Whether memos may be, by the program. -/
import Derived.Test.YtibnbcljmfigfaaPMemo2
namespace Go.Proofs.Ytibnbcljmfigfaa
open Go Go.AM Go.Proofs
set_option maxRecDepth 20000
set_option maxHeartbeats 8000000
set_option linter.unusedSimpArgs false
set_option linter.unusedVariables false
def int64G (v : Int) : GV := .int .i64 v
def cntM (b : List (Int × Int)) : List (GV × Option GV) := b.map (kvG int64G)
def metG (p : Int × Int) : List GV × Option GV := ([.int .i64 p.1, .int .i64 p.2], some (.bool true))
theorem findM2_met (w s : Int) : ∀ (met : List (Int × Int)), findM2 [.i, .i] [.int .i64 w, .int .i64 s] (met.map metG) = some (if met.contains (w, s) = true then some (met.findIdx (· == (w, s))) else none)
  | [] => rfl
  | p :: met => by
    obtain ⟨a, b⟩ := p
    have ih := findM2_met w s met
    rw [List.map_cons]
    unfold findM2
    simp only [metG, List.map_cons, List.map_nil, eqL, eqG, if_true, Bool.and_true]
    by_cases h : w = a ∧ s = b
    · obtain ⟨rfl, rfl⟩ := h
      simp [List.findIdx_cons]
    · have hb : (w == a && s == b) = false := by
        rw [Bool.eq_false_iff]; intro hh; rw [Bool.and_eq_true] at hh
        exact h ⟨by simpa using hh.1, by simpa using hh.2⟩
      rw [hb, ih]
      have hne : ¬ ((a, b) : Int × Int) = (w, s) := fun e => by cases e; exact h ⟨rfl, rfl⟩
      have hc : ((a, b) :: met).contains (w, s) = met.contains (w, s) := by
        rw [Bool.eq_iff_iff, List.contains_iff_mem, List.contains_iff_mem, List.mem_cons]
        exact ⟨fun h => h.elim (fun e => absurd e.symm hne) id, .inr⟩
      rw [hc]
      have hne2 : (((a, b) : Int × Int) == (w, s)) = false := by simpa using hne
      cases hq : met.contains (w, s)
      · simp
      · simp [List.findIdx_cons, hne2]
theorem mget2_met (w s : Int) (met : List (Int × Int)) : mgetV2 false [.i, .i] (some (.bool false)) [.int .i64 w, .int .i64 s] (met.map metG) = some (.g (.bool (met.contains (w, s)))) := by
  unfold mgetV2
  rw [if_pos (by simp), findM2_met]
  cases hq : met.contains (w, s)
  · simp [mvV]
  · have hlt : met.findIdx (· == (w, s)) < met.length := by
      rw [List.findIdx_lt_length]
      exact ⟨(w, s), List.contains_iff_mem.1 hq, by simp⟩
    simp only [if_true]
    rw [List.getElem?_map, List.getElem?_eq_getElem hlt]
    simp [mvV, metG]
theorem mset2_met (w s : Int) (met : List (Int × Int)) (h : met.contains (w, s) = false) : msetV2 [.i, .i] [.int .i64 w, .int .i64 s] (some (.bool true)) (met.map metG) = some ((met ++ [(w, s)]).map metG) := by
  unfold msetV2
  rw [if_pos (by simp), findM2_met, h]
  simp [metG]
theorem cnt_get (b : List (Int × Int)) (k : Int) : mgetV false .i (some (.int .i64 0)) (.int .i64 k) (cntM b) = some (I (cntN b k)) := by
  have := mget_kv int64G k (.int .i64 0) false b
  unfold cntM
  rw [this]
  simp only [Bool.false_eq_true, if_false]
  unfold cntN
  cases getA k b <;> rfl
theorem cnt_get2 (b : List (Int × Int)) (k : Int) : mgetV true .i (some (.int .i64 0)) (.int .i64 k) (cntM b) = some (.tup [I (cntN b k), B (getA k b).isSome]) := by
  have := mget_kv int64G k (.int .i64 0) true b
  unfold cntM
  rw [this]
  simp only [if_true]
  unfold cntN
  cases getA k b <;> rfl
theorem cnt_set (b : List (Int × Int)) (k v : Int) : msetV .i (.int .i64 k) (some (.int .i64 v)) (cntM b) = some (cntM (setA k v b)) := mset_kv int64G k v b
theorem cntN_set (b : List (Int × Int)) (k v : Int) : cntN (setA k v b) k = v := by unfold cntN; rw [getA_set, if_pos rfl]; rfl
theorem runG_fl : ∀ (l : List Floor) (k : Nat) (b : List (Int × Int)), runG (fun _ (x : Floor) b => flF b x) k l b = match goFl l b with | some b' => .inl b' | none => .inr () := by
  intro l
  induction l with
  | nil => intro k b; rfl
  | cons x l ih =>
    intro k b
    unfold runG goFl flF
    by_cases h : (getA x.who b).isSome = true
    · simp [h]
    · simp only [h, if_false, Bool.false_eq_true]
      exact ih _ _
def meF (F : List (Int × Int)) (b : List (Int × Int) × List (Int × Int)) (x : Memo) : (List (Int × Int) × List (Int × Int)) ⊕ Unit :=
  if badM F b.1 x = true then .inr () else if 4 < cntN b.2 x.who + 1 then .inr () else .inl (b.1 ++ [mkey x], setA x.who (cntN b.2 x.who + 1) b.2)
theorem runG_me (F : List (Int × Int)) : ∀ (l : List Memo) (k : Nat) (b : List (Int × Int) × List (Int × Int)), (∃ b', runG (fun _ (x : Memo) b => meF F b x) k l b = .inl b' ∧ goMe F l b.1 b.2 = true) ∨ (runG (fun _ (x : Memo) b => meF F b x) k l b = .inr () ∧ goMe F l b.1 b.2 = false) := by
  intro l
  induction l with
  | nil => intro k b; exact .inl ⟨b, rfl, rfl⟩
  | cons x l ih =>
    intro k b
    unfold runG goMe meF
    by_cases h : badM F b.1 x = true
    · right; simp [h]
    · simp only [h, if_false, Bool.false_eq_true]
      by_cases h4 : 4 < cntN b.2 x.who + 1
      · right; simp [h4]
      · simp only [h4, if_false]
        exact ih _ _

theorem badM_eq (F : List (Int × Int)) (met : List (Int × Int)) (x : Memo) : badM F met x = (met.contains (mkey x) || ((getA x.who F).isSome && decide (x.seq ≤ cntN F x.who))) := by
  unfold badM cntN
  cases getA x.who F <;> rfl
theorem MMay_ev (m : Memos) (wf : m.wf) (hl : m.l.l.length + m.old.l.length ≤ 5000) (H : List Blk) : EvF tab 39 [A m.c] H = some ⟨B (mayMe m.l.l m.old.l), [], []⟩ := by
  have h1 := fun H => Whos_ev m wf (by omega) H
  have hwl : ∀ h st, lenV h st (.g (Ints.g (slOf (whosP m.l.l m.old.l)))) = some (whosP m.l.l m.old.l).length := fun h st => by rw [lenV_Sl, slOf_l]
  obtain ⟨ml, mo⟩ := m
  simp only at hl h1 hwl ⊢
  have hw := loop_runJ (E := EvF tab) (h := H) (c := L39_0) (lv := [1, 3, 4, 5, 18, 19, 20]) (l := mo.l) (β := List (Int × Int)) (γ := Unit) (fun _ _ => True) (fun _ x b => flF b x)
    (fun k b o => ⟨[(1, .ptr H.length 0), (3, .mp (H.length + 1)), (4, .mp (H.length + 2)), (5, .mp (H.length + 3)), (18, .g (Floors.g mo)), (19, I mo.l.length), (20, I k)], [], .cells ((Memos.c ⟨ml, mo⟩).map .g) :: .map (cntM b) :: .map2 [] :: .map [] :: o⟩)
    (fun b o => (.exit 0, ⟨[(1, .ptr H.length 0), (3, .mp (H.length + 1)), (4, .mp (H.length + 2)), (5, .mp (H.length + 3)), (18, .g (Floors.g mo)), (19, I mo.l.length), (20, I mo.l.length), (21, B false)], [], .cells ((Memos.c ⟨ml, mo⟩).map .g) :: .map (cntM b) :: .map2 [] :: .map [] :: o⟩))
    (fun _ o => (.ret, ⟨[(2, B false)], [], o⟩)) (by simp) (by simp) (fun k x b o hk hx hy _ => ?_) (fun _ o _ => by delta L39_0; simp -implicitDefEqProofs) [] [] trivial
  have hw2 := fun F o0 => loop_runJ (E := EvF tab) (h := H) (c := L39_1) (lv := [1, 3, 4, 5, 39, 40, 41]) (l := ml.l) (β := List (Int × Int) × List (Int × Int)) (γ := Unit) (fun k b => ∀ w, 0 ≤ cntN b.2 w ∧ cntN b.2 w ≤ k) (fun _ x b => meF F b x)
    (fun k b o => ⟨[(1, .ptr H.length 0), (3, .mp (H.length + 1)), (4, .mp (H.length + 2)), (5, .mp (H.length + 3)), (39, .g (MemoL.g ml)), (40, I ml.l.length), (41, I k)], [], .cells ((Memos.c ⟨ml, mo⟩).map .g) :: .map (cntM F) :: .map2 (b.1.map metG) :: .map (cntM b.2) :: o⟩)
    (fun b o => (.exit 2, ⟨[(1, .ptr H.length 0), (3, .mp (H.length + 1)), (4, .mp (H.length + 2)), (5, .mp (H.length + 3)), (39, .g (MemoL.g ml)), (40, I ml.l.length), (41, I ml.l.length), (42, B false)], [], .cells ((Memos.c ⟨ml, mo⟩).map .g) :: .map (cntM F) :: .map2 (b.1.map metG) :: .map (cntM b.2) :: o⟩))
    (fun _ o => (.ret, ⟨[(2, B false)], [], o⟩)) (by simp) (by simp) (fun k x b o hk hx hy hi => ?_) (fun _ o _ => by delta L39_1; simp -implicitDefEqProofs) ([], []) o0 (fun w => by simp [cntN, getA])
  · obtain ⟨o', hw⟩ := hw
    rw [runG_fl] at hw
    unfold mayMe
    refine EvF_walk t39 (by simp) ?_
    have hlen : ∀ h s, lenV h s (.g (MemoL.g ml)) = some ml.l.length := fun h s => lenV_Sl ..
    have hlen2 : ∀ h s, lenV h s (.g (Floors.g mo)) = some mo.l.length := fun h s => lenV_Sl ..
    simp only [A, Memos.c, List.map_cons, List.map_nil] at hw hw2 h1 ⊢
    generalize MemoL.g ml = G1 at hw hw2 h1 hlen ⊢
    generalize Floors.g mo = G2 at hw hw2 h1 hlen2 ⊢
    rw [show cntM [] = [] from rfl] at hw
    simp only [Int.ofNat_zero, Int.cast_ofNat_Int] at hw hw2
    cases hg : goFl mo.l [] with
    | none =>
      rw [hg] at hw
      simp only [endJ] at hw
      simp -implicitDefEqProofs [hw, hlen2]
    | some F =>
      rw [hg] at hw
      simp only [endJ] at hw
      obtain ⟨o2, hw2⟩ := hw2 F o'
      rw [show cntM [] = [] from rfl] at hw2
      rcases runG_me F ml.l 0 ([], []) with ⟨b', e1, e2⟩ | ⟨e1, e2⟩
      · rw [e1] at hw2
        simp only at e2
        simp only [endJ] at hw2
        generalize Ints.g (slOf (whosP ml.l mo.l)) = GW at h1 hwl
        by_cases h8 : (whosP ml.l mo.l).length ≤ 8
        · have h8I : ((whosP ml.l mo.l).length : Int) ≤ 8 := by omega
          simp -implicitDefEqProofs [e2, hw, hw2, hlen, hlen2, h1, hwl, h8, h8I]
        · have h8I : ¬ ((whosP ml.l mo.l).length : Int) ≤ 8 := by omega
          simp -implicitDefEqProofs [e2, hw, hw2, hlen, hlen2, h1, hwl, h8, h8I]
      · rw [e1] at hw2
        simp only at e2
        simp only [endJ] at hw2
        simp -implicitDefEqProofs [e2, hw, hw2, hlen, hlen2]
  · have e2 := wrap_succ hk (by omega)
    delta L39_1
    obtain ⟨met, cnt⟩ := b
    simp only at hi ⊢
    have g1 := cnt_get2 F x.who
    have g2 := mget2_met x.who x.seq met
    have g3 := cnt_get cnt x.who
    have g4 := cnt_set cnt x.who (cntN cnt x.who + 1)
    have g5 := cnt_get (setA x.who (cntN cnt x.who + 1) cnt) x.who
    rw [cntN_set] at g5
    have g6 := fun H => mof_ev x H
    have hb := hi x.who
    have e3 : IntKind.i64.wrap (cntN cnt x.who + 1) = cntN cnt x.who + 1 := wrap_i64 (by omega) (by omega)
    cases ml with
    | nil => simp at hk
    | of l =>
      simp only [Sl.l_of] at hk hy hl
      unfold meF
      simp only
      rw [badM_eq]
      cases hc : met.contains (mkey x)
      · have g7 := mset2_met x.who x.seq met hc
        rw [show met.contains (x.who, x.seq) = met.contains (mkey x) from rfl, hc] at g2
        simp only [Bool.false_or]
        obtain ⟨xw, xs, x1, x2, x3, x4, x5, x6, x7, x8, x9⟩ := x
        simp only [mkey] at g7 hc ⊢
        simp only [A, Memo.c, List.map_cons, List.map_nil] at g1 g2 g3 g4 g5 g6 e3 hb ⊢
        have hnew : ¬ 4 < cntN cnt xw + 1 → ∀ w, 0 ≤ cntN (setA xw (cntN cnt xw + 1) cnt) w ∧ cntN (setA xw (cntN cnt xw + 1) cnt) w ≤ ((k + 1 : Nat) : Int) := fun _ w => by
          have hw := hi w
          unfold cntN at hw hb ⊢
          rw [getA_set]
          by_cases h : w = xw
          · rw [if_pos h, Option.getD_some]; omega
          · rw [if_neg h]; omega
        generalize hMC2 : cntM (setA xw (cntN cnt xw + 1) cnt) = MC2 at g4 g5
        generalize cntM cnt = MC at g3 g4 ⊢
        generalize cntM F = MF at g1 ⊢
        generalize hMM2 : (met ++ [(xw, xs)]).map metG = MM2 at g7
        generalize met.map metG = MM at g2 g7 ⊢
        generalize cntN F xw = cf at g1 ⊢
        generalize (getA xw F).isSome = cb at g1 ⊢
        generalize hcc : cntN cnt xw = cc at g3 g4 g5 e3 hb hnew hMC2 ⊢
        cases cb
        · simp only [Bool.false_and, Bool.false_eq_true, if_false]
          by_cases h4 : 4 < cc + 1
          · rw [if_pos h4]
            refine ⟨.cells ((Memos.c ⟨.of l, mo⟩).map .g) :: .map MF :: .map2 MM2 :: .map MC2 :: (o ++ [.rows 6 1 [], .rows 8 1 [], .cells ((Memo.c ⟨xw, xs, x1, x2, x3, x4, x5, x6, x7, x8, x9⟩).map .g)]), ?_⟩
            simp -implicitDefEqProofs [hk, hy, Memos.c, Memo.c, g1, g2, g3, g4, g5, g6, g7, e3, h4]
          · rw [if_neg h4]
            refine ⟨hnew h4, o ++ [.rows 6 1 [], .rows 8 1 [], .cells ((Memo.c ⟨xw, xs, x1, x2, x3, x4, x5, x6, x7, x8, x9⟩).map .g)], ?_⟩
            simp only
            rw [hMC2, hMM2]
            simp -implicitDefEqProofs [hk, hy, Memos.c, Memo.c, g1, g2, g3, g4, g5, g6, g7, e2, e3, h4]
        · by_cases hq : xs ≤ cf
          · simp only [hq, decide_true, Bool.and_self, if_true]
            refine ⟨.cells ((Memos.c ⟨.of l, mo⟩).map .g) :: .map MF :: .map2 MM :: .map MC :: (o ++ [.rows 6 1 [], .rows 8 1 [], .cells ((Memo.c ⟨xw, xs, x1, x2, x3, x4, x5, x6, x7, x8, x9⟩).map .g)]), ?_⟩
            simp -implicitDefEqProofs [hk, hy, Memos.c, Memo.c, g1, g2, g6, hq]
          · simp only [hq, decide_false, Bool.and_false, Bool.false_eq_true, if_false]
            by_cases h4 : 4 < cc + 1
            · rw [if_pos h4]
              refine ⟨.cells ((Memos.c ⟨.of l, mo⟩).map .g) :: .map MF :: .map2 MM2 :: .map MC2 :: (o ++ [.rows 6 1 [], .rows 8 1 [], .cells ((Memo.c ⟨xw, xs, x1, x2, x3, x4, x5, x6, x7, x8, x9⟩).map .g)]), ?_⟩
              simp -implicitDefEqProofs [hk, hy, Memos.c, Memo.c, g1, g2, g3, g4, g5, g6, g7, e3, h4, hq]
            · rw [if_neg h4]
              refine ⟨hnew h4, o ++ [.rows 6 1 [], .rows 8 1 [], .cells ((Memo.c ⟨xw, xs, x1, x2, x3, x4, x5, x6, x7, x8, x9⟩).map .g)], ?_⟩
              simp only
              rw [hMC2, hMM2]
              simp -implicitDefEqProofs [hk, hy, Memos.c, Memo.c, g1, g2, g3, g4, g5, g6, g7, e2, e3, h4, hq]
      · rw [show met.contains (x.who, x.seq) = met.contains (mkey x) from rfl, hc] at g2
        simp only [Bool.true_or, if_true]
        obtain ⟨xw, xs, x1, x2, x3, x4, x5, x6, x7, x8, x9⟩ := x
        simp only [A, Memo.c, List.map_cons, List.map_nil] at g1 g2 g6 ⊢
        generalize cntM F = MF at g1 ⊢
        generalize met.map metG = MM at g2 ⊢
        generalize cntM cnt = MC at ⊢
        generalize cntN F xw = cf at g1
        generalize (getA xw F).isSome = cb at g1
        refine ⟨.cells ((Memos.c ⟨.of l, mo⟩).map .g) :: .map MF :: .map2 MM :: .map MC :: (o ++ [.rows 6 1 [], .rows 8 1 [], .cells ((Memo.c ⟨xw, xs, x1, x2, x3, x4, x5, x6, x7, x8, x9⟩).map .g)]), ?_⟩
        simp -implicitDefEqProofs [hk, hy, Memos.c, Memo.c, g1, g2, g6]
  · have e2 := wrap_succ hk (by omega)
    have g1 := cnt_get2 b x.who
    have g2 := cnt_set b x.who x.seq
    delta L39_0
    cases mo with
    | nil => simp at hk
    | of l =>
      simp only [Sl.l_of] at hk hy hl
      obtain ⟨xw, xs⟩ := x
      unfold flF
      simp only at g1 g2 ⊢
      cases hc : (getA xw b).isSome
      · rw [hc] at g1
        simp only [Bool.false_eq_true, if_false]
        refine ⟨trivial, o ++ [.cells ((Floor.c ⟨xw, xs⟩).map .g)], ?_⟩
        generalize cntM (setA xw xs b) = M2 at g2 ⊢
        generalize cntM b = M1 at g1 g2 ⊢
        simp -implicitDefEqProofs [hk, hy, Memos.c, Floor.c, e2, g1, g2]
      · rw [hc] at g1
        simp only [if_true]
        refine ⟨.cells ((Memos.c ⟨ml, .of l⟩).map .g) :: .map (cntM b) :: .map2 [] :: .map [] :: (o ++ [.cells ((Floor.c ⟨xw, xs⟩).map .g)]), ?_⟩
        generalize cntM b = M1 at g1 ⊢
        simp -implicitDefEqProofs [hk, hy, Memos.c, Floor.c, e2, g1]
end Go.Proofs.Ytibnbcljmfigfaa
