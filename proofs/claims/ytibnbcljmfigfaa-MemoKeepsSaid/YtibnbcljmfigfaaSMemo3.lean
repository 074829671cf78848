/- Who there is, by a map of the call's own. -/
import Derived.Test.YtibnbcljmfigfaaSMemo2
namespace Go.Proofs.Ytibnbcljmfigfaa
open Go Go.AM Go.Proofs
set_option maxRecDepth 20000
set_option maxHeartbeats 4000000
set_option linter.unusedSimpArgs false
set_option linter.unusedVariables false
/-! ### Maps of whole numbers -/
def kvG {β : Type} (G : β → GV) (p : Int × β) : GV × Option GV := (.int .i64 p.1, some (G p.2))
def getA {β : Type} (k : Int) : List (Int × β) → Option β
  | [] => none
  | p :: l => if p.1 = k then some p.2 else getA k l
def setA {β : Type} (k : Int) (v : β) : List (Int × β) → List (Int × β)
  | [] => [(k, v)]
  | p :: l => if p.1 = k then (k, v) :: l else p :: setA k v l
theorem findM_kv {β : Type} (G : β → GV) (k : Int) (v : β) : ∀ (l : List (Int × β)),
    (getA k l = none ∧ findM .i (.int .i64 k) (l.map (kvG G)) = some none ∧ setA k v l = l ++ [(k, v)]) ∨
    (∃ j v0, getA k l = some v0 ∧ findM .i (.int .i64 k) (l.map (kvG G)) = some (some j) ∧ l[j]? = some (k, v0) ∧ setA k v l = l.set j (k, v))
  | [] => .inl ⟨rfl, rfl, rfl⟩
  | p :: l => by
    obtain ⟨a, b⟩ := p
    by_cases h : a = k
    · subst h
      exact .inr ⟨0, b, by simp [getA], by simp [findM, kvG, eqG], by simp, by simp [setA]⟩
    · have h' : (k == a) = false := by simpa using fun e => h e.symm
      rcases findM_kv G k v l with ⟨h1, h2, h3⟩ | ⟨j, v0, h1, h2, h3, h4⟩
      · exact .inl ⟨by simp [getA, h, h1], by simp [findM, kvG, eqG, h', h2], by simp [setA, h, h3]⟩
      · exact .inr ⟨j + 1, v0, by simp [getA, h, h1], by simp [findM, kvG, eqG, h', h2], by simp [h3], by simp [setA, h, h4]⟩
theorem mset_kv {β : Type} (G : β → GV) (k : Int) (v : β) (l : List (Int × β)) : msetV .i (.int .i64 k) (some (G v)) (l.map (kvG G)) = some ((setA k v l).map (kvG G)) := by
  unfold msetV
  rcases findM_kv G k v l with ⟨h1, h2, h3⟩ | ⟨j, v0, h1, h2, h3, h4⟩
  · rw [h2, h3]; simp [kvG]
  · rw [h2, h4]; simp [kvG, List.map_set]
theorem mget_kv {β : Type} (G : β → GV) (k : Int) (z : GV) (cm : Bool) (l : List (Int × β)) : mgetV cm .i (some z) (.int .i64 k) (l.map (kvG G)) = some (if cm = true then .tup [.g (((getA k l).map G).getD z), B (getA k l).isSome] else .g (((getA k l).map G).getD z)) := by
  unfold mgetV
  cases l with
  | nil => simp [findM, getA, mvV]
  | cons p l =>
    rcases findM_kv G k p.2 (p :: l) with ⟨h1, h2, h3⟩ | ⟨j, v0, h1, h2, h3, h4⟩
    · rw [h2, h1]; simp [mvV]
    · rw [h2, h1]; simp only [List.getElem?_map, h3]; simp [mvV, kvG]
theorem setA_true : ∀ (ks : List Int) (k : Int), setA k true (ks.map fun k => (k, true)) = (onceF ks k).map fun k => (k, true)
  | [], k => rfl
  | y :: ks, k => by
    have ih := setA_true ks k
    unfold onceF at ih ⊢
    rw [List.map_cons]
    unfold setA
    by_cases h : y = k
    · subst h; simp
    · have h' : ¬ k = y := fun e => h e.symm
      simp only [h, if_false, List.mem_cons, h', false_or]
      rw [ih]
      split <;> rfl
def boolG (b : Bool) : GV := .bool b
def metM (ks : List Int) : List (GV × Option GV) := (ks.map fun k => (k, true)).map (kvG boolG)
theorem metM_set (ks : List Int) (k : Int) : msetV .i (.int .i64 k) (some (.bool true)) (metM ks) = some (metM (onceF ks k)) := by
  have := mset_kv boolG k true (ks.map fun k => (k, true))
  rw [setA_true] at this
  exact this
theorem sorted_ev {H : List Blk} {p id : Nat} {ks : List Int} (h1 : H[p]? = some (.cells [.mp id])) (h2 : H[id]? = some (.map (metM ks))) (hn : ks.Nodup) (hw : ∀ k ∈ ks, I64 k) (hl : ks.length ≤ 1000000) :
    EvF tab 72 [.fv 96 [.ptr p 0]] H = some ⟨.g (Ints.g (slOf (sortL ks))), [], []⟩ := by
  refine EvF_ext rfl (fun _ _ h => by cases h) ?_
  have e1 : intsG ((metM ks).map fun e => [e.1]) = some ks := by
    have : ((metM ks).map fun e => [e.1]) = ks.map intG := by unfold metM; simp [kvG, intG]
    rw [this]; exact intsG_map ks
  have e2 : (ks.all fun k => (Lit.int .i64 k).wf) = true := by
    rw [List.all_eq_true]
    intro k hk
    obtain ⟨a, b⟩ := hw k hk
    show (decide _ && decide _) = true
    rw [Bool.and_eq_true, decide_eq_true_eq, decide_eq_true_eq]
    exact ⟨a, b⟩
  have e3 : (if ks = [] then GV.nsl else GV.sl 1 ((sortL ks).map intG)) = Ints.g (slOf (sortL ks)) := by
    have := sortL_len ks
    unfold slOf
    by_cases h : ks = []
    · subst h; rw [if_pos rfl, sortL_nil, if_pos rfl]; rfl
    · have h' : sortL ks ≠ [] := fun e => h (List.eq_nil_of_length_eq_zero (by rw [← this, e]; rfl))
      rw [if_neg h, if_neg h']; rfl
  show orX _ _ _ _ _ = _
  unfold orX keysX
  rw [if_pos rfl]
  unfold Go.AM.keysA
  simp only [if_true, h1, h2, e1]
  rw [if_pos ⟨hn, e2, hl⟩, e3]
theorem keys1_ev (id : Nat) (H : List Blk) : EvF tab 73 [.mp id] H = some ⟨.fv 96 [.ptr H.length 0], [], [.cells [.mp id]]⟩ := by
  refine EvF_walk t73 (by simp) ?_
  simp -implicitDefEqProofs
theorem Whos_ev (m : Memos) (wf : m.wf) (hl : m.l.l.length + m.old.l.length ≤ 10000) (H : List Blk) : EvF tab 42 [A m.c] H = some ⟨.g (Ints.g (slOf (whosP m.l.l m.old.l))), [], []⟩ := by
  obtain ⟨ml, mo⟩ := m
  obtain ⟨⟨w1, _⟩, ⟨w2, _⟩⟩ := wf
  simp only at hl w1 w2 ⊢
  have hw := loop_runJ (E := EvF tab) (h := H) (c := L42_0) (lv := [1, 3, 10, 11, 12]) (l := ml.l) (β := List Int) (γ := Unit) (fun _ _ => True) (fun _ x r => .inl ((fun r (x : Memo) => onceF r x.who) r x))
    (fun k r o => ⟨[(1, .ptr H.length 0), (3, .mp (H.length + 2)), (10, .g (MemoL.g ml)), (11, I ml.l.length), (12, I k)], [], .cells ((Memos.c ⟨ml, mo⟩).map .g) :: .rows 1 1 [] :: .map (metM r) :: o⟩)
    (fun r o => (.exit 0, ⟨[(1, .ptr H.length 0), (3, .mp (H.length + 2)), (10, .g (MemoL.g ml)), (11, I ml.l.length), (12, I ml.l.length), (13, B false)], [], .cells ((Memos.c ⟨ml, mo⟩).map .g) :: .rows 1 1 [] :: .map (metM r) :: o⟩))
    (fun n o => (.ret, ⟨[], [], o⟩)) (by simp) (by simp) (fun k x r o hk hx hy _ => ?_) (fun _ o _ => by delta L42_0; simp -implicitDefEqProofs) [] [] trivial
  have hw2 := fun r0 o0 => loop_runJ (E := EvF tab) (h := H) (c := L42_1) (lv := [3, 21, 22, 23]) (l := mo.l) (β := List Int) (γ := Unit) (fun _ _ => True) (fun _ x r => .inl ((fun r (x : Floor) => onceF r x.who) r x))
    (fun k r o => ⟨[(3, .mp (H.length + 2)), (21, .g (Floors.g mo)), (22, I mo.l.length), (23, I k)], [], .cells ((Memos.c ⟨ml, mo⟩).map .g) :: .rows 1 1 [] :: .map (metM r) :: o⟩)
    (fun r o => (.exit 2, ⟨[(3, .mp (H.length + 2)), (21, .g (Floors.g mo)), (22, I mo.l.length), (23, I mo.l.length), (24, B false)], [], .cells ((Memos.c ⟨ml, mo⟩).map .g) :: .rows 1 1 [] :: .map (metM r) :: o⟩))
    (fun n o => (.ret, ⟨[], [], o⟩)) (by simp) (by simp) (fun k x r o hk hx hy _ => ?_) (fun _ o _ => by delta L42_1; simp -implicitDefEqProofs) r0 o0 trivial
  · obtain ⟨o', hw⟩ := hw
    rw [runG_foldM] at hw
    have hf : ∀ (l : List Memo) (r : List Int), l.foldl (fun r (x : Memo) => onceF r x.who) r = (l.map Memo.who).foldl onceF r := by
      intro l r; rw [List.foldl_map]
    have hf2 : ∀ (l : List Floor) (r : List Int), l.foldl (fun r (x : Floor) => onceF r x.who) r = (l.map Floor.who).foldl onceF r := by
      intro l r; rw [List.foldl_map]
    rw [hf] at hw
    obtain ⟨o2, hw2⟩ := hw2 ((ml.l.map Memo.who).foldl onceF []) o'
    rw [runG_foldM, hf2, ← List.foldl_append] at hw2
    rw [show (ml.l.map Memo.who ++ mo.l.map Floor.who).foldl onceF [] = whoL ml.l mo.l from rfl] at hw2
    simp only [endJ, Int.ofNat_zero, Int.cast_ofNat_Int] at hw hw2
    have hk := fun (a b : Blk) => sorted_ev (H := H ++ (a :: b :: .map (metM (whoL ml.l mo.l)) :: (o2 ++ [.cells [.mp (H.length + 2)]]))) (p := H.length + (o2.length + 3)) (id := H.length + 2) (ks := whoL ml.l mo.l) (by
        rw [List.getElem?_append_right (by omega), Nat.add_sub_cancel_left, show a :: b :: Blk.map (metM (whoL ml.l mo.l)) :: (o2 ++ [Blk.cells [.mp (H.length + 2)]]) = (a :: b :: Blk.map (metM (whoL ml.l mo.l)) :: o2) ++ [Blk.cells [.mp (H.length + 2)]] from rfl, List.getElem?_append_right (by simp)]
        simp) (by rw [List.getElem?_append_right (by omega), Nat.add_sub_cancel_left]; rfl) (onceL_nodup _) (fun k hk => by
        unfold whoL at hk
        rw [onceL_mem, List.mem_append, List.mem_map, List.mem_map] at hk
        rcases hk with ⟨x, hx, rfl⟩ | ⟨x, hx, rfl⟩
        · exact (w1 x hx).1
        · exact (w2 x hx).1) (by
        have := onceFold_len (ml.l.map Memo.who ++ mo.l.map Floor.who) []
        simp only [List.length_append, List.length_map, List.length_nil] at this
        unfold whoL onceL; omega)
    rw [show sortL (whoL ml.l mo.l) = whosP ml.l mo.l from rfl] at hk
    have hk1 := fun H' => keys1_ev (H.length + 2) H'
    refine EvF_walk t42 (by simp) ?_
    simp only [Memos.c, List.map_cons, List.map_nil] at hw hw2
    have hlen : ∀ h s, lenV h s (.g (MemoL.g ml)) = some ml.l.length := fun h s => lenV_Sl ..
    have hlen2 : ∀ h s, lenV h s (.g (Floors.g mo)) = some mo.l.length := fun h s => lenV_Sl ..
    generalize hg1 : MemoL.g ml = G1 at hw hw2 hlen
    generalize hg2 : Floors.g mo = G2 at hw hw2 hlen2
    rw [show metM [] = [] from rfl] at hw
    generalize metM ((ml.l.map Memo.who).foldl onceF []) = M1 at hw hw2
    generalize metM (whoL ml.l mo.l) = M2 at hw2 hk
    generalize Ints.g (slOf (whosP ml.l mo.l)) = R at hk ⊢
    simp -implicitDefEqProofs [A, Memos.c, hg1, hg2, hlen, hlen2, hw, hw2, hk1, hk]
  · have e2 := wrap_succ hk (by omega)
    have hs := metM_set r x.who
    delta L42_1
    cases mo with
    | nil => simp at hk
    | of l =>
      simp only [Sl.l_of] at hk hy hl
      obtain ⟨xw, xs⟩ := x
      simp only at hs ⊢
      refine ⟨trivial, o ++ [.cells ((Floor.c ⟨xw, xs⟩).map .g)], ?_⟩
      generalize metM (onceF r xw) = M2 at hs ⊢
      generalize metM r = M1 at hs ⊢
      simp -implicitDefEqProofs [hk, hy, Memos.c, Floor.c, e2, hs]
  · have e2 := wrap_succ hk (by omega)
    have hs := metM_set r x.who
    delta L42_0
    cases ml with
    | nil => simp at hk
    | of l =>
      simp only [Sl.l_of] at hk hy hl
      obtain ⟨xw, xs, x1, x2, x3, x4, x5, x6, x7, x8, x9⟩ := x
      simp only at hs ⊢
      refine ⟨trivial, o ++ [.rows 6 1 [], .rows 8 1 [], .cells ((Memo.c ⟨xw, xs, x1, x2, x3, x4, x5, x6, x7, x8, x9⟩).map .g)], ?_⟩
      generalize metM (onceF r xw) = M2 at hs ⊢
      generalize metM r = M1 at hs ⊢
      simp -implicitDefEqProofs [hk, hy, Memos.c, Memo.c, e2, hs]
end Go.Proofs.Ytibnbcljmfigfaa
