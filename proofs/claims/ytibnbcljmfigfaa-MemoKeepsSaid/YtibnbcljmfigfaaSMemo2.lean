/- Numbers put into lists that rise; who there is. -/
import Derived.Test.YtibnbcljmfigfaaSMemo1
namespace Go.Proofs.Ytibnbcljmfigfaa
open Go Go.AM Go.Proofs
set_option maxRecDepth 20000
set_option maxHeartbeats 4000000
set_option linter.unusedSimpArgs false
set_option linter.unusedVariables false
def cntI (n : Int) : List Int → Nat
  | [] => 0
  | y :: l => if y < n then cntI n l + 1 else 0
theorem cntI_le (n : Int) : ∀ l, cntI n l ≤ l.length
  | [] => Nat.le_refl _
  | y :: l => by
    have := cntI_le n l
    unfold cntI; split <;> simp <;> omega
theorem insL_cnt (n : Int) : ∀ l, insL n l = l.take (cntI n l) ++ (n :: l.drop (cntI n l))
  | [] => rfl
  | y :: l => by
    have := insL_cnt n l
    unfold insL cntI
    split
    · rw [this]; rfl
    · rfl
theorem appG_own {sz bytes g : Nat} (n : Nat) (xs ys : List (List GV)) (h1 : xs.length + ys.length ≤ 140737488355328) (h2 : (xs.length + ys.length) * bytes ≤ 140737488355328) (H : List Blk) :
    ∃ (g' : Nat) (W : List Nat), g ≤ g' ∧ ∀ (t : List (Nat × AV)) (m : List (Nat × Blk)) (P : List Blk), P.length = n → appV H ⟨t, m, P ++ [.rows sz g xs]⟩ sz bytes (.ms (H.length + n) g sz 0 xs.length) ys = some (.ms (H.length + n) g' sz 0 (xs ++ ys).length, ⟨t, m, P ++ [.rows sz g' (xs ++ ys)]⟩, W) := by
  by_cases hne : ys = []
  · subst hne
    exact ⟨g, [], Nat.le_refl _, fun t m P hP => by subst hP; simp -implicitDefEqProofs [appV]⟩
  · exact ⟨g + 1, [H.length + n], by omega, fun t m P hP => by subst hP; rw [List.length_append]; exact app_grow hne h1 h2 H t m P⟩
theorem putO_cnt (n : Int) : ∀ l, putO n l = if l[cntI n l]? = some n then l else insL n l
  | [] => by simp [putO, insL]
  | y :: l => by
    have := putO_cnt n l
    unfold putO cntI insL
    by_cases h : y < n
    · simp only [h, if_true, List.getElem?_cons_succ]
      rw [this]
      split <;> rfl
    · simp only [h, if_false, List.getElem?_cons_zero, Option.some.injEq]
def putB (once : Bool) (n : Int) (l : List Int) : List Int := if once = true then putO n l else insL n l
theorem put_loop (l : List Int) (n : Int) (once : Bool) (hl : l.length ≤ 100000) (H : List Blk) (p : Blk) (G : AV) (hlen : ∀ s, lenV H s G = some l.length)
    (hG : G = .g (.sl 1 (l.map Ints.c)) ∨ l = []) :
    loopE (EvF tab) H L65_0 [0, 1, 2, 7] ⟨[(0, G), (1, I n), (2, B once), (7, I 0)], [], [p]⟩ =
      some (.exit 0, ⟨[(0, G), (1, I n), (2, B once), (7, I (cntI n l)), (20, B false)], [], [p]⟩) := by
  have hw := loop_runJ (E := EvF tab) (h := H) (c := L65_0) (lv := [0, 1, 2, 7]) (l := l) (β := Unit) (γ := Nat) (fun _ _ => True) (fun k y _ => if y < n then .inl () else .inr k)
    (fun k _ _ => ⟨[(0, G), (1, I n), (2, B once), (7, I k)], [], [p]⟩)
    (fun _ _ => (.exit 0, ⟨[(0, G), (1, I n), (2, B once), (7, I l.length), (20, B false)], [], [p]⟩))
    (fun k _ => (.exit 0, ⟨[(0, G), (1, I n), (2, B once), (7, I k), (20, B false)], [], [p]⟩)) (by simp) (by simp) (fun k y b o hk hx hy _ => ?_) (fun _ o _ => by delta L65_0; simp -implicitDefEqProofs [hlen]) () [] trivial
  · obtain ⟨o', hw⟩ := hw
    have hr : ∀ (l : List Int) k, runG (fun k (y : Int) (_ : Unit) => if y < n then (.inl () : Unit ⊕ Nat) else .inr k) k l () = if cntI n l = l.length then .inl () else .inr (k + cntI n l) := by
      intro l
      induction l with
      | nil => intro k; rfl
      | cons y l ih =>
        intro k
        unfold runG cntI
        by_cases h : y < n
        · simp only [if_pos h]
          rw [ih]
          simp only [List.length_cons, Nat.add_right_cancel_iff]
          rw [show k + 1 + cntI n l = k + (cntI n l + 1) by omega]
        · simp only [if_neg h]
          rw [if_neg (by simp)]; rfl
    rw [hr] at hw
    simp only [Int.ofNat_zero, Int.cast_ofNat_Int, Nat.zero_add] at hw
    by_cases hc : cntI n l = l.length
    · rw [if_pos hc] at hw; rw [hc]; exact hw
    · rw [if_neg hc] at hw; exact hw
  · have e2 := wrap_succ hk (by omega)
    rcases hG with rfl | rfl
    · delta L65_0
      by_cases h : y < n
      · simp only [if_pos h]
        refine ⟨trivial, o, ?_⟩
        simp -implicitDefEqProofs [hk, hy, hx, Ints.c, h, e2]
      · simp only [if_neg h]
        refine ⟨o, ?_⟩
        simp -implicitDefEqProofs [hk, hy, hx, Ints.c, h, e2]
    · simp at hk
theorem put_ev (l : List Int) (n : Int) (once : Bool) (hl : l.length ≤ 100000) (H : List Blk) : EvF tab 65 [.g (.sl 1 (l.map Ints.c)), I n, B once] H = some ⟨.g (.sl 1 ((putB once n l).map Ints.c)), [], []⟩ := by
  have hw := put_loop l n once hl H (.rows 1 1 []) (.g (.sl 1 (l.map Ints.c))) (fun s => by simp [lenV]) (.inl rfl)
  refine EvF_walk t65 (by simp) ?_
  have hc := cntI_le n l
  have hcI : ((cntI n l : Nat) : Int) ≤ (l.length : Int) := by omega
  have hput : ∀ once, putB once n l = if once = true ∧ l[cntI n l]? = some n then l else l.take (cntI n l) ++ (n :: l.drop (cntI n l)) := by
    intro once
    unfold putB
    rw [putO_cnt, insL_cnt]
    cases once
    · simp
    · simp
  rw [hput]
  generalize hcc : cntI n l = c at hw hc hcI hput ⊢
  have e0 : List.take l.length (List.map Ints.c l) = List.map Ints.c l := List.take_of_length_le (by simp)
  have hl1 : (List.take c (List.map Ints.c l)).length ≤ l.length := by simp; omega
  have hl2 : (List.drop c (List.map Ints.c l)).length ≤ l.length := by simp
  obtain ⟨LA, e1⟩ : ∃ A, List.take c (List.map Ints.c l) = A := ⟨_, rfl⟩
  obtain ⟨LD, e2⟩ : ∃ A, List.drop c (List.map Ints.c l) = A := ⟨_, rfl⟩
  rw [e1] at hl1
  rw [e2] at hl2
  have er : List.map Ints.c (l.take c ++ (n :: l.drop c)) = LA ++ Ints.c n :: LD := by rw [List.map_append, List.map_cons, List.map_take, List.map_drop, e1, e2]
  obtain ⟨g1, W1, q1, a1⟩ := appG_own (sz := 1) (bytes := 8) (g := 2) 1 [] LA (by simp; omega) (by simp; omega) H
  rw [List.nil_append] at a1
  obtain ⟨g2, W2, q2, a2⟩ := appG_own (sz := 1) (bytes := 8) (g := g1) 1 LA [Ints.c n] (by simp; omega) (by simp; omega) H
  obtain ⟨g3, W3, q3, a3⟩ := appG_own (sz := 1) (bytes := 8) (g := g2) 1 (LA ++ [Ints.c n]) LD (by simp; omega) (by simp; omega) H
  have a1' := fun t p => a1 t [] [p] rfl
  have a2' := fun t p => a2 t [] [p] rfl
  have a3' := fun t p => a3 t [] [p] rfl
  simp only [List.cons_append, List.nil_append, List.append_assoc, List.length_append, List.length_cons, Ints.c, List.length_nil, Nat.zero_add] at a1' a2' a3'
  have g3n : ¬ g3 = 1 := by omega
  have et : List.take (LA.length + (LD.length + 1)) (LA ++ [GV.int .i64 n] :: LD) = LA ++ [GV.int .i64 n] :: LD := List.take_of_length_le (by simp)
  by_cases hcl : c < l.length
  · have hclI : (c : Int) < (l.length : Int) := by omega
    obtain ⟨x, hx⟩ : ∃ x, l[c] = x := ⟨_, rfl⟩
    have hx? : l[c]? = some x := by rw [List.getElem?_eq_getElem hcl, hx]
    rw [hx?]
    cases once
    · simp -implicitDefEqProofs [hw, hcl, hclI, hc, hcI, hx, hx?, cutB, bnd, intOfA, e0, e1, e2, er, et, a1', a2', a3', g3n, chunk, Ints.c]
    · by_cases hxn : x = n
      · simp -implicitDefEqProofs [hw, hcl, hclI, hc, hcI, hx, hx?, hxn, Ints.c]
      · simp -implicitDefEqProofs [hw, hcl, hclI, hc, hcI, hx, hx?, hxn, cutB, bnd, intOfA, e0, e1, e2, er, et, a1', a2', a3', g3n, chunk, Ints.c]
  · have hclI : ¬ (c : Int) < (l.length : Int) := by omega
    have hx? : l[c]? = none := List.getElem?_eq_none (by omega)
    rw [hx?]
    cases once
    · simp -implicitDefEqProofs [hw, hcl, hclI, hc, hcI, hx?, cutB, bnd, intOfA, e0, e1, e2, er, et, a1', a2', a3', g3n, chunk, Ints.c]
    · simp -implicitDefEqProofs [hw, hcl, hclI, hc, hcI, hx?, cutB, bnd, intOfA, e0, e1, e2, er, et, a1', a2', a3', g3n, chunk, Ints.c]

theorem putN_ev (n : Int) (once : Bool) {H : List Blk} {id : Nat} (hid : H[id]? = some (.rows 1 1 [])) : EvF tab 65 [.ms id 1 1 0 0, I n, B once] H = some ⟨.g (.sl 1 ([n].map Ints.c)), [], []⟩ := by
  have hlt : id < H.length := (List.getElem?_eq_some_iff.1 hid).1
  have hidg : H[id] = .rows 1 1 [] := (List.getElem?_eq_some_iff.1 hid).2
  have hlv : isLiveB H id = true := by unfold isLiveB; rw [hid]; rfl
  have hw : loopE (EvF tab) H L65_0 [0, 1, 2, 7] ⟨[(0, .ms id 1 1 0 0), (1, I n), (2, B once), (7, I 0)], [], [.rows 1 1 []]⟩ = some (.exit 0, ⟨[(0, .ms id 1 1 0 0), (1, I n), (2, B once), (7, I 0), (20, B false)], [], [.rows 1 1 []]⟩) := by
    refine loopE_out _ _ _ _ _ _ (by simp) ?_
    delta L65_0
    simp -implicitDefEqProofs [getB_old hlt, orB, hid, hidg, hlv]
  refine EvF_walk t65 (by simp) ?_
  have hr1 : ∀ o, isLiveB (H ++ o) id = true := fun o => by unfold isLiveB; rw [List.getElem?_append_left hlt, hid]; rfl
  cases once <;> simp -implicitDefEqProofs [hw, getB_old hlt, orB, hid, hidg, hlv, hr1, cutB, bnd, intOfA, appV, room, Nat.not_succ_le_self, chunk, Ints.c]

/-- A list that starts as a row of the call's own, without anything, and is a list of numbers from the first on. -/
def startV (id : Nat) (l : List Int) : AV := if l = [] then .ms id 1 1 0 0 else .g (.sl 1 (l.map Ints.c))
theorem putB_ne (once : Bool) (n : Int) (l : List Int) : putB once n l ≠ [] := by
  unfold putB
  cases once
  · simp only [Bool.false_eq_true, if_false]
    cases l with
    | nil => simp [insL]
    | cons y l => unfold insL; split <;> simp
  · simp only [if_true]
    cases l with
    | nil => simp [putO]
    | cons y l => unfold putO; split
                  · simp
                  · split <;> simp
theorem putB_len (once : Bool) (n : Int) (l : List Int) : (putB once n l).length ≤ l.length + 1 := by
  have h1 := (insL_perm n l).length_eq
  unfold putB
  split
  · rw [putO_cnt]; split
    · omega
    · rw [h1]; simp
  · rw [h1]; simp
theorem putS_ev (l : List Int) (n : Int) (once : Bool) (hl : l.length ≤ 100000) {H : List Blk} {id : Nat} (hid : H[id]? = some (.rows 1 1 [])) : EvF tab 65 [startV id l, I n, B once] H = some ⟨startV id (putB once n l), [], []⟩ := by
  unfold startV
  rw [if_neg (putB_ne once n l)]
  cases l with
  | nil =>
    have := putN_ev n once hid
    have e : putB once n [] = [n] := by unfold putB; cases once <;> rfl
    rw [e]; exact this
  | cons y l => exact put_ev (y :: l) n once hl H
theorem runG_foldM {α β : Type} (f : β → α → β) : ∀ (l : List α) (k : Nat) (b : β), runG (γ := Unit) (fun k (x : α) b => .inl (f b x)) k l b = .inl (l.foldl f b) := by
  intro l
  induction l with
  | nil => intro k b; simp [runG]
  | cons x l ih => intro k b; simp only [runG, ih]; simp
theorem Seqs2_ev (m : Memos) (w : Int) (hl : m.l.l.length ≤ 10000) (H : List Blk) : EvF tab 70 [A m.c, I w] H = some ⟨.g (Ints.g (slOf (seqsP m.l.l w))), [], []⟩ := by
  obtain ⟨ml, mo⟩ := m
  simp only at hl ⊢
  have hw := loop_runJ (E := EvF tab) (h := H) (c := L70_0) (lv := [1, 2, 5, 6]) (l := ml.l) (β := List Int) (γ := Unit) (fun k r => r.length ≤ k) (fun _ x r => .inl ((fun r (x : Memo) => if x.who = w then insL x.seq r else r) r x))
    (fun k r o => ⟨[(1, I w), (2, .ptr H.length 0), (5, startV (H.length + 2) r), (6, I k)], [], [.cells ((Memos.c ⟨ml, mo⟩).map .g), .rows 1 1 [], .rows 1 1 []]⟩)
    (fun r o => (.exit 0, ⟨[(1, I w), (2, .ptr H.length 0), (5, startV (H.length + 2) r), (6, I ml.l.length), (11, B false)], [], [.cells ((Memos.c ⟨ml, mo⟩).map .g), .rows 1 1 [], .rows 1 1 []]⟩))
    (fun n o => (.ret, ⟨[], [], o⟩)) (by simp) (by simp) (fun k x r o hk hx hy hi => ?_) (fun _ o _ => by delta L70_0; simp -implicitDefEqProofs [Memos.c]) [] [] (by simp)
  · obtain ⟨o', hw⟩ := hw
    rw [runG_foldM] at hw
    have hf : ∀ (l : List Memo) (r : List Int), l.foldl (fun r (x : Memo) => if x.who = w then insL x.seq r else r) r = (seqL l w).foldl (fun s n => insL n s) r := by
      intro l
      induction l with
      | nil => intro r; rfl
      | cons x l ih =>
        intro r
        unfold seqL at ih ⊢
        rw [List.foldl_cons, ih, List.filter_cons]
        by_cases h : x.who = w
        · simp [h]
        · simp [h]
    have hs := insL_fold (seqL ml.l w) []
    rw [sortL_nil, List.nil_append] at hs
    rw [hf, hs] at hw
    rw [show sortL (seqL ml.l w) = seqsP ml.l w from rfl] at hw
    simp only [endJ, Int.ofNat_zero, Int.cast_ofNat_Int] at hw
    refine EvF_walk t70 (by simp) ?_
    simp only [Memos.c, List.map_cons, List.map_nil] at hw
    generalize hg1 : MemoL.g ml = G1 at hw
    generalize hg2 : Floors.g mo = G2 at hw
    obtain ⟨r, hr⟩ : ∃ r, seqsP ml.l w = r := ⟨_, rfl⟩
    rw [hr] at hw ⊢
    cases r with
    | nil => simp only [startV, if_true] at hw; simp -implicitDefEqProofs [A, Memos.c, hg1, hg2, hw, slOf]
    | cons y r => simp only [startV, reduceCtorEq, if_false, if_true] at hw; simp -implicitDefEqProofs [A, Memos.c, hg1, hg2, hw, slOf]
  · have e2 := wrap_succ hk (by omega)
    have hp := fun H id (hid : H[id]? = some (Blk.rows 1 1 [])) => putS_ev r x.seq false (by omega) hid
    have hp2 := fun (b c : Blk) => hp (H ++ [b, c, .rows 1 1 []]) (H.length + 2) (by rw [List.getElem?_append_right (by omega), Nat.add_sub_cancel_left]; rfl)
    have hpl := putB_len false x.seq r
    have hpb : putB false x.seq r = insL x.seq r := rfl
    rw [hpb] at hp2 hpl
    delta L70_0
    cases ml with
    | nil => simp at hk
    | of l =>
      simp only [Sl.l_of] at hk hy hl
      obtain ⟨xw, xs, x1, x2, x3, x4, x5, x6, x7, x8, x9⟩ := x
      simp only at hp2 hpl ⊢
      by_cases h : xw = w
      · simp only [h, if_true]
        refine ⟨by omega, o, ?_⟩
        generalize startV (H.length + 2) r = S1 at hp2 ⊢
        generalize startV (H.length + 2) (insL xs r) = S2 at hp2 ⊢
        simp -implicitDefEqProofs [hk, hy, Memos.c, Memo.c, h, e2, hp2]
      · simp only [h, if_false]
        refine ⟨by omega, o, ?_⟩
        simp -implicitDefEqProofs [hk, hy, Memos.c, Memo.c, h, e2]

/-! ### Who there is -/
theorem Whos2_ev (m : Memos) (hl : m.l.l.length + m.old.l.length ≤ 10000) (H : List Blk) : EvF tab 64 [A m.c] H = some ⟨.g (Ints.g (slOf (whosP m.l.l m.old.l))), [], []⟩ := by
  obtain ⟨ml, mo⟩ := m
  simp only at hl ⊢
  have hlo : ∀ (l : List Int) (r : List Int), (l.foldl (fun r n => putO n r) r).length ≤ r.length + l.length := by
    intro l
    induction l with
    | nil => intro r; simp
    | cons y l ih =>
      intro r
      have := ih (putO y r)
      have h2 : (putO y r).length ≤ r.length + 1 := putB_len true y r
      rw [List.foldl_cons, List.length_cons]; omega
  have hw := loop_runJ (E := EvF tab) (h := H) (c := L64_0) (lv := [1, 3, 4]) (l := ml.l) (β := List Int) (γ := Unit) (fun k r => r.length ≤ k) (fun _ x r => .inl ((fun r (x : Memo) => putO x.who r) r x))
    (fun k r o => ⟨[(1, .ptr H.length 0), (3, startV (H.length + 2) r), (4, I k)], [], [.cells ((Memos.c ⟨ml, mo⟩).map .g), .rows 1 1 [], .rows 1 1 []]⟩)
    (fun r o => (.exit 0, ⟨[(1, .ptr H.length 0), (3, startV (H.length + 2) r), (4, I ml.l.length), (10, B false)], [], [.cells ((Memos.c ⟨ml, mo⟩).map .g), .rows 1 1 [], .rows 1 1 []]⟩))
    (fun n o => (.ret, ⟨[], [], o⟩)) (by simp) (by simp) (fun k x r o hk hx hy hi => ?_) (fun _ o _ => by delta L64_0; simp -implicitDefEqProofs [Memos.c]) [] [] (by simp)
  have hw2 := fun (r0 : List Int) (hr0 : r0.length ≤ ml.l.length) => loop_runJ (E := EvF tab) (h := H) (c := L64_1) (lv := [1, 3, 5]) (l := mo.l) (β := List Int) (γ := Unit) (fun k r => r.length ≤ ml.l.length + k) (fun _ x r => .inl ((fun r (x : Floor) => putO x.who r) r x))
    (fun k r o => ⟨[(1, .ptr H.length 0), (3, startV (H.length + 2) r), (5, I k)], [], [.cells ((Memos.c ⟨ml, mo⟩).map .g), .rows 1 1 [], .rows 1 1 []]⟩)
    (fun r o => (.exit 2, ⟨[(1, .ptr H.length 0), (3, startV (H.length + 2) r), (5, I mo.l.length), (25, B false)], [], [.cells ((Memos.c ⟨ml, mo⟩).map .g), .rows 1 1 [], .rows 1 1 []]⟩))
    (fun n o => (.ret, ⟨[], [], o⟩)) (by simp) (by simp) (fun k x r o hk hx hy hi => ?_) (fun _ o _ => by delta L64_1; simp -implicitDefEqProofs [Memos.c]) r0 [] (by simpa using hr0)
  · obtain ⟨o', hw⟩ := hw
    rw [runG_foldM] at hw
    have hf : ∀ (l : List Memo) (r : List Int), l.foldl (fun r (x : Memo) => putO x.who r) r = (l.map Memo.who).foldl (fun r n => putO n r) r := by
      intro l r; rw [List.foldl_map]
    have hf2 : ∀ (l : List Floor) (r : List Int), l.foldl (fun r (x : Floor) => putO x.who r) r = (l.map Floor.who).foldl (fun r n => putO n r) r := by
      intro l r; rw [List.foldl_map]
    rw [hf] at hw
    have hln := hlo (ml.l.map Memo.who) []
    simp only [List.length_nil, List.length_map, Nat.zero_add] at hln
    obtain ⟨o2, hw2⟩ := hw2 _ hln
    rw [runG_foldM, hf2, ← List.foldl_append] at hw2
    have hs := putO_fold (ml.l.map Memo.who ++ mo.l.map Floor.who) []
    rw [sortL_nil] at hs
    rw [hs] at hw2
    rw [show sortL ((ml.l.map Memo.who ++ mo.l.map Floor.who).foldl onceF []) = whosP ml.l mo.l from rfl] at hw2
    simp only [endJ, Int.ofNat_zero, Int.cast_ofNat_Int] at hw hw2
    refine EvF_walk t64 (by simp) ?_
    simp only [Memos.c, List.map_cons, List.map_nil] at hw hw2
    generalize hg1 : MemoL.g ml = G1 at hw hw2
    generalize hg2 : Floors.g mo = G2 at hw hw2
    generalize hst : startV (H.length + 2) ((ml.l.map Memo.who).foldl (fun r n => putO n r) []) = S1 at hw hw2
    have h0 : startV (H.length + 2) [] = .ms (H.length + 2) 1 1 0 0 := rfl
    rw [h0] at hw
    obtain ⟨r, hr⟩ : ∃ r, whosP ml.l mo.l = r := ⟨_, rfl⟩
    rw [hr] at hw2 ⊢
    cases r with
    | nil => simp only [startV, if_true] at hw2; simp -implicitDefEqProofs [A, Memos.c, hg1, hg2, hw, hw2, slOf]
    | cons y r => simp only [startV, reduceCtorEq, if_false] at hw2; simp -implicitDefEqProofs [A, Memos.c, hg1, hg2, hw, hw2, slOf]
  · have e2 := wrap_succ hk (by omega)
    have hp := fun H id (hid : H[id]? = some (Blk.rows 1 1 [])) => putS_ev r x.who true (by omega) hid
    have hp2 := fun (b c : Blk) => hp (H ++ [b, c, .rows 1 1 []]) (H.length + 2) (by rw [List.getElem?_append_right (by omega), Nat.add_sub_cancel_left]; rfl)
    have hpl := putB_len true x.who r
    have hpb : putB true x.who r = putO x.who r := rfl
    rw [hpb] at hp2 hpl
    delta L64_1
    cases mo with
    | nil => simp at hk
    | of l =>
      simp only [Sl.l_of] at hk hy hl
      obtain ⟨xw, xs⟩ := x
      simp only at hp2 hpl ⊢
      refine ⟨by omega, o, ?_⟩
      generalize startV (H.length + 2) r = S1 at hp2 ⊢
      generalize startV (H.length + 2) (putO xw r) = S2 at hp2 ⊢
      simp -implicitDefEqProofs [hk, hy, Memos.c, Floor.c, e2, hp2]
  · have e2 := wrap_succ hk (by omega)
    have hp := fun H id (hid : H[id]? = some (Blk.rows 1 1 [])) => putS_ev r x.who true (by omega) hid
    have hp2 := fun (b c : Blk) => hp (H ++ [b, c, .rows 1 1 []]) (H.length + 2) (by rw [List.getElem?_append_right (by omega), Nat.add_sub_cancel_left]; rfl)
    have hpl := putB_len true x.who r
    have hpb : putB true x.who r = putO x.who r := rfl
    rw [hpb] at hp2 hpl
    delta L64_0
    cases ml with
    | nil => simp at hk
    | of l =>
      simp only [Sl.l_of] at hk hy hl
      obtain ⟨xw, xs, x1, x2, x3, x4, x5, x6, x7, x8, x9⟩ := x
      simp only at hp2 hpl ⊢
      refine ⟨by omega, o, ?_⟩
      generalize startV (H.length + 2) r = S1 at hp2 ⊢
      generalize startV (H.length + 2) (putO xw r) = S2 at hp2 ⊢
      simp -implicitDefEqProofs [hk, hy, Memos.c, Memo.c, e2, hp2]
end Go.Proofs.Ytibnbcljmfigfaa
