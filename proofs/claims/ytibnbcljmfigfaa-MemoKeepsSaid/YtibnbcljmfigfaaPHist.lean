/- Lists of things, and what events make of them. -/
import Derived.Test.YtibnbcljmfigfaaSHist2
namespace Go.Proofs.Ytibnbcljmfigfaa
open Go Go.AM Go.Proofs
set_option linter.unusedSimpArgs false
set_option linter.unusedVariables false
def layP : List KV → KV → List KV
  | [], x => [x]
  | y :: l, x => if Op.bytesLess y.key x.key = true then y :: layP l x else if y.key = x.key then x :: l else x :: y :: l
def takeP : List KV → Bs → List KV
  | [], _ => []
  | y :: l, k => if y.key = k then l else y :: takeP l k
def stepP (rev : Int) (l : List KV) (e : Ev) : List KV := if rev < e.rev then l else if e.gone = true then takeP l e.kv.key else layP l e.kv
def foldP (l : List KV) (log : List Ev) (rev : Int) : List KV := log.foldl (stepP rev) l
theorem layP_len (x : KV) : ∀ l, (layP l x).length ≤ l.length + 1
  | [] => by simp [layP]
  | y :: l => by
    have := layP_len x l
    unfold layP
    split
    · simp only [List.length_cons]; omega
    · split <;> simp
theorem takeP_len (k : Bs) : ∀ l, (takeP l k).length ≤ l.length
  | [] => by simp [takeP]
  | y :: l => by
    have := takeP_len k l
    unfold takeP
    split
    · simp
    · simp only [List.length_cons]; omega
theorem layP_ne (l : List KV) (x : KV) : layP l x ≠ [] := by
  cases l with
  | nil => simp [layP]
  | cons y l => unfold layP; split; simp; split <;> simp
/-- As the program lays. -/
def layF (x : KV) (b : List KV × Bool) (y : KV) : List KV × Bool :=
  if (b.2 || Op.bytesLess y.key x.key) = true then (b.1 ++ [y], b.2) else if y.key = x.key then (b.1 ++ [x], true) else (b.1 ++ [x, y], true)
theorem layF_true (x : KV) : ∀ (l r : List KV), l.foldl (layF x) (r, true) = (r ++ l, true)
  | [], r => by simp
  | y :: l, r => by
    rw [List.foldl_cons, show layF x (r, true) y = (r ++ [y], true) by simp [layF], layF_true x l]
    simp
theorem layF_fin (x : KV) : ∀ (l r : List KV), (let b := l.foldl (layF x) (r, false); if b.2 = true then b.1 else b.1 ++ [x]) = r ++ layP l x
  | [], r => by simp [layP]
  | y :: l, r => by
    rw [List.foldl_cons]
    by_cases h : Op.bytesLess y.key x.key = true
    · rw [show layF x (r, false) y = (r ++ [y], false) by simp [layF, h]]
      have := layF_fin x l (r ++ [y])
      rw [this]
      simp [layP, h]
    · by_cases h2 : y.key = x.key
      · rw [show layF x (r, false) y = (r ++ [x], true) by simp only [layF, Bool.false_or, h, h2, if_true]; simp [bl_irrefl], layF_true]
        simp [layP, h, h2, bl_irrefl]
      · rw [show layF x (r, false) y = (r ++ [x, y], true) by simp [layF, h, h2], layF_true]
        simp [layP, h, h2]
theorem takeP_find (k : Bs) : ∀ (l : List KV) (i : Nat), (match findN k i l with | none => takeP l k = l | some j => takeP l k = l.take (j - i) ++ l.drop (j - i + 1))
  | [], i => rfl
  | y :: l, i => by
    unfold findN takeP
    by_cases h : y.key = k
    · simp [h]
    · simp only [if_neg h]
      have := takeP_find k l (i + 1)
      rcases hq : findN k (i + 1) l with _ | j <;> rw [hq] at this <;> simp only at this ⊢
      · rw [this]
      · obtain ⟨h1, _⟩ := findN_spec k l (i + 1) j hq
        have e : j - i = (j - (i + 1)) + 1 := by omega
        rw [this, e]; rfl
def slOf {α : Type} (l : List α) : Sl α := if l = [] then .nil else .of l
theorem slOf_l {α : Type} (l : List α) : (slOf l).l = l := by unfold slOf; split <;> simp_all
theorem nslG_slOf {α : Type} (sz : Nat) (c : α → List GV) (l : List α) : nslG sz c l = (slOf l).g sz c := by
  unfold nslG slOf; split <;> rfl
def takeR (s : Sl KV) (k : Bs) : Sl KV := match findN k 0 s.l with | none => s | some i => slOf (s.l.take i ++ s.l.drop (i + 1))
theorem takeR_l (s : Sl KV) (k : Bs) : (takeR s k).l = takeP s.l k := by
  have := takeP_find k s.l 0
  unfold takeR
  rcases hq : findN k 0 s.l with _ | j <;> rw [hq] at this <;> simp only at this ⊢
  · exact this.symm
  · rw [slOf_l, this]; rfl
def stepR (rev : Int) (s : Sl KV) (e : Ev) : Sl KV := if rev < e.rev then s else if e.gone = true then takeR s e.kv.key else .of (layP s.l e.kv)
def stepR2 (rev : Int) (s : Sl KV) (e : Ev) : Sl KV := if rev < e.rev then s else if e.gone = true then .of (takeP s.l e.kv.key) else .of (layP s.l e.kv)
theorem stepR_l (rev : Int) (s : Sl KV) (e : Ev) : (stepR rev s e).l = stepP rev s.l e := by
  unfold stepR stepP; split; rfl; split; exact takeR_l _ _; rfl
theorem stepR2_l (rev : Int) (s : Sl KV) (e : Ev) : (stepR2 rev s e).l = stepP rev s.l e := by
  unfold stepR2 stepP; split; rfl; split <;> rfl
def foldR (s : Sl KV) (log : List Ev) (rev : Int) : Sl KV := log.foldl (stepR rev) s
def foldR2 (s : Sl KV) (log : List Ev) (rev : Int) : Sl KV := log.foldl (stepR2 rev) s
theorem foldR_l (rev : Int) : ∀ (log : List Ev) (s : Sl KV), (foldR s log rev).l = foldP s.l log rev
  | [], s => rfl
  | e :: log, s => by
    have := foldR_l rev log (stepR rev s e)
    unfold foldR foldP at *
    rw [List.foldl_cons, List.foldl_cons, this, stepR_l]
theorem foldR2_l (rev : Int) : ∀ (log : List Ev) (s : Sl KV), (foldR2 s log rev).l = foldP s.l log rev
  | [], s => rfl
  | e :: log, s => by
    have := foldR2_l rev log (stepR2 rev s e)
    unfold foldR2 foldP at *
    rw [List.foldl_cons, List.foldl_cons, this, stepR2_l]
theorem stepP_len (rev : Int) (l : List KV) (e : Ev) : (stepP rev l e).length ≤ l.length + 1 := by
  unfold stepP; split; omega; split
  · have := takeP_len e.kv.key l; omega
  · exact layP_len _ _
theorem foldP_len (rev : Int) : ∀ (log : List Ev) (l : List KV), (foldP l log rev).length ≤ l.length + log.length
  | [], l => by simp [foldP]
  | e :: log, l => by
    have h1 := foldP_len rev log (stepP rev l e)
    have h2 := stepP_len rev l e
    unfold foldP at *
    rw [List.foldl_cons, List.length_cons]; omega
end Go.Proofs.Ytibnbcljmfigfaa
