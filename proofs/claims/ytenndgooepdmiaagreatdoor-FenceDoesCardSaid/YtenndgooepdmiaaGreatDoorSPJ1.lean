/- Part of the proof: what the functions answer, part 1 (PFence, SFence, SFence2, SFence3, SFence4, SFence5, SFence6, SFence7, SFence8, SVarW, SWire1). No conditions. -/
import Derived.Test.YtenndgooepdmiaaGreatDoorAMJ4
import Derived.Test.YtenndgooepdmiaaGreatDoorTabA
import Derived.KernelRfl
section
namespace Go.Proofs.YtenndgooepdmiaaGreatDoor
open Go Go.AM Go.Proofs
set_option maxRecDepth 20000
set_option linter.unusedSimpArgs false
set_option linter.unusedVariables false
structure Acc where
  who : Int
  token : Int
  value : Bs
  deriving DecidableEq, Inhabited
def Acc.c (x : Acc) : List GV := [.int .i64 x.who, .int .i64 x.token, .str x.value]
def Acc.wf (x : Acc) : Prop := I64 x.who ∧ I64 x.token ∧ S64 x.value
abbrev tAcc : GTy := .p (.i .i64) (.p (.i .i64) (.p .s .u))
theorem Acc.inv {gs : List GV} (h : HasTy tAcc gs) : ∃ x : Acc, x.wf ∧ gs = x.c := by
  obtain ⟨_, _, rfl, ⟨a, rfl, ha⟩, _, _, rfl, ⟨b, rfl, hb⟩, _, _, rfl, ⟨c, rfl, hc⟩, rfl⟩ := h
  exact ⟨⟨a, b, c⟩, ⟨ha, hb, hc⟩, rfl⟩
abbrev Accs.g (s : Sl Acc) : GV := Sl.g 3 Acc.c s
structure Rsc where
  high : Int
  value : Bs
  log : Sl Acc
def Rsc.c (x : Rsc) : List GV := [.int .i64 x.high, .str x.value, Accs.g x.log]
def Rsc.wf (x : Rsc) : Prop := I64 x.high ∧ S64 x.value ∧ (∀ y ∈ x.log.l, y.wf) ∧ x.log.l.length ≤ 9223372036854775807
abbrev tRsc : GTy := .p (.i .i64) (.p .s (.p (.sl 3 tAcc) .u))
theorem Rsc.inv {gs : List GV} (h : HasTy tRsc gs) : ∃ x : Rsc, x.wf ∧ gs = x.c := by
  obtain ⟨_, _, rfl, ⟨a, rfl, ha⟩, _, _, rfl, ⟨b, rfl, hb⟩, _, _, rfl, hk, rfl⟩ := h
  obtain ⟨k, k1, k2, rfl⟩ := hk.sl_inv (fun _ => Acc.inv)
  exact ⟨⟨a, b, k⟩, ⟨ha, hb, k1, k2⟩, rfl⟩
theorem Accs.inv {gs : List GV} (h : HasTy (.sl 3 tAcc) gs) : ∃ s : Sl Acc, ((∀ y ∈ s.l, y.wf) ∧ s.l.length ≤ 9223372036854775807) ∧ gs = [Accs.g s] := by
  obtain ⟨k, k1, k2, rfl⟩ := h.sl_inv (fun _ => Acc.inv)
  exact ⟨k, ⟨k1, k2⟩, rfl⟩

/-! ### A write -/
def accOk (x : Acc) : Bool := decide (1 ≤ x.token) && decide (x.token ≤ 1099511627775) && decide (0 ≤ x.who) && decide (x.who ≤ 1099511627775) && decide (x.value.length ≤ 20)
/-- What is wrong with a write: nothing (0), its form (1), its token (2), no room (3). -/
def ck (r : Rsc) (x : Acc) : Nat := if accOk x = false then 1 else if x.token < r.high then 2 else if 40 ≤ r.log.l.length then 3 else 0
def takeR (r : Rsc) (x : Acc) : Rsc := ⟨x.token, x.value, .of (r.log.l ++ [x])⟩
def codeN : Nat → Int
  | 0 => 0
  | 1 => 1
  | 2 => 10
  | _ => 4
def wrR (r : Rsc) (x : Acc) : Rsc := if ck r x = 0 then takeR r x else r
def wrE (r : Rsc) (x : Acc) : Int := codeN (ck r x)
theorem wrE_zero {r : Rsc} {x : Acc} : wrE r x = 0 ↔ ck r x = 0 := by
  unfold wrE ck
  repeat' split
  all_goals simp [codeN]
theorem ck_zero {r : Rsc} {x : Acc} : ck r x = 0 ↔ accOk x = true ∧ r.high ≤ x.token ∧ r.log.l.length < 40 := by
  unfold ck
  cases accOk x
  · simp
  · simp only [Bool.true_eq_false, if_false, true_and]
    split
    · simp; omega
    · split <;> simp <;> omega

/-! ### May it be? -/
def zR : Rsc := ⟨0, [], .nil⟩
def goL : Rsc → List Acc → Option Rsc
  | s, [] => some s
  | s, x :: l => if ck s x = 0 then goL (takeR s x) l else none
def mayR (r : Rsc) : Bool := match goL zR r.log.l with
  | some s => decide (s.high = r.high) && decide (s.value = r.value)
  | none => false
/-- The reference's. -/
def upB : Int → List Acc → Bool
  | _, [] => true
  | h, x :: l => accOk x && decide (h ≤ x.token) && upB x.token l
def lastS (h : Int) (v : Bs) : List Acc → Int × Bs
  | [] => (h, v)
  | x :: l => lastS x.token x.value l
theorem goL_eq : ∀ (l : List Acc) (s : Rsc), goL s l = if upB s.high l = true ∧ (l = [] ∨ s.log.l.length + l.length ≤ 40) then
    some ⟨(lastS s.high s.value l).1, (lastS s.high s.value l).2, if l = [] then s.log else .of (s.log.l ++ l)⟩ else none := by
  intro l
  induction l with
  | nil => intro s; simp [goL, upB, lastS]
  | cons x l ih =>
    intro s
    simp only [goL]
    by_cases hc : ck s x = 0
    · rw [if_pos hc, ih]
      obtain ⟨h1, h2, h3⟩ := ck_zero.1 hc
      simp only [upB, h1, h2, decide_true, Bool.true_and, takeR, lastS, Sl.l_of, List.length_append, List.length_cons, List.length_nil, reduceCtorEq, false_or, if_false]
      have e : (l = [] ∨ s.log.l.length + (0 + 1) + l.length ≤ 40) ↔ s.log.l.length + (l.length + 1) ≤ 40 := by
        constructor
        · rintro (rfl | h)
          · simp; omega
          · omega
        · intro h; right; omega
      by_cases hu : upB x.token l = true
      · by_cases hl : s.log.l.length + (l.length + 1) ≤ 40
        · simp only [hu, true_and, if_pos (e.2 hl), if_pos hl]
          by_cases hn : l = []
          · subst hn; simp
          · simp [hn]
        · rw [if_neg (fun h => hl (e.1 h.2)), if_neg (fun h => hl h.2)]
      · rw [if_neg (fun h => hu h.1), if_neg (fun h => hu h.1)]
    · rw [if_neg hc, if_neg]
      rintro ⟨h1, h2⟩
      simp only [upB, Bool.and_eq_true, decide_eq_true_eq] at h1
      simp only [List.length_cons, reduceCtorEq, false_or] at h2
      exact hc (ck_zero.2 ⟨h1.1.1, h1.1.2, by omega⟩)
/-- What a resource that may be is. -/
theorem mayR_iff {r : Rsc} : mayR r = true ↔ upB 0 r.log.l = true ∧ r.log.l.length ≤ 40 ∧ r.high = (lastS 0 [] r.log.l).1 ∧ r.value = (lastS 0 [] r.log.l).2 := by
  unfold mayR
  rw [goL_eq]
  simp only [zR, Sl.l_nil, List.length_nil, Nat.zero_add]
  by_cases h : upB 0 r.log.l = true ∧ (r.log.l = [] ∨ r.log.l.length ≤ 40)
  · rw [if_pos h]
    have h40 : r.log.l.length ≤ 40 := by rcases h.2 with e | e; rw [e]; simp; exact e
    simp only [Bool.and_eq_true, decide_eq_true_eq, h.1, h40, true_and]
    constructor
    · rintro ⟨a, b⟩; exact ⟨a.symm, b.symm⟩
    · rintro ⟨a, b⟩; exact ⟨a.symm, b.symm⟩
  · rw [if_neg h]
    simp only [Bool.false_eq_true, false_iff]
    rintro ⟨a, b, _⟩
    exact h ⟨a, .inr b⟩
theorem upB_append : ∀ (l m : List Acc) (h : Int) (v : Bs), upB h (l ++ m) = (upB h l && upB (lastS h v l).1 m) := by
  intro l
  induction l with
  | nil => intro m h v; simp [upB, lastS]
  | cons x l ih => intro m h v; simp only [List.cons_append, upB, lastS, ih m x.token x.value, Bool.and_assoc]
theorem lastS_append : ∀ (l : List Acc) (x : Acc) (h : Int) (v : Bs), lastS h v (l ++ [x]) = (x.token, x.value) := by
  intro l
  induction l with
  | nil => intro x h v; rfl
  | cons y l ih => intro x h v; simp only [List.cons_append, lastS, ih]
/-- A write that is taken leaves what may be. -/
theorem may_take {r : Rsc} {x : Acc} (h : mayR r = true) (hc : ck r x = 0) : mayR (takeR r x) = true := by
  rw [mayR_iff] at h ⊢
  obtain ⟨h1, h2, h3, h4⟩ := h
  obtain ⟨k1, k2, k3⟩ := ck_zero.1 hc
  refine ⟨?_, ?_, ?_, ?_⟩
  · simp only [takeR, Sl.l_of]
    rw [upB_append r.log.l [x] 0 [], h1, Bool.true_and]
    simp only [upB, k1, Bool.true_and, Bool.and_true, decide_eq_true_eq]
    rw [← h3]; exact k2
  · simp only [takeR, Sl.l_of, List.length_append, List.length_cons, List.length_nil]; omega
  · simp only [takeR, Sl.l_of, lastS_append]
  · simp only [takeR, Sl.l_of, lastS_append]
theorem may_wr {r : Rsc} {x : Acc} (h : mayR r = true) : mayR (wrR r x) = true := by
  unfold wrR
  split
  · exact may_take h (by assumption)
  · exact h

/-! ### Numbers that rise, each once -/
def dedup : List Int → List Int
  | [] => []
  | x :: l => x :: (match dedup l with
    | [] => []
    | y :: m => if x = y then m else y :: m)
def putL (n : Int) : List Int → List Int
  | [] => [n]
  | x :: l => if x < n then x :: putL n l else if x = n then x :: l else n :: x :: l
theorem mem_dedup {n : Int} : ∀ (l : List Int), n ∈ dedup l ↔ n ∈ l := by
  intro l
  induction l with
  | nil => simp [dedup]
  | cons x l ih =>
    simp only [dedup]
    rcases hd : dedup l with _ | ⟨y, m⟩
    · rw [hd] at ih
      simp only [List.mem_cons, ← ih]
    · rw [hd] at ih
      simp only
      split
      · rename_i e
        subst e
        simp only [List.mem_cons, ← ih]
        constructor
        · rintro (h | h)
          · exact .inl h
          · exact .inr (.inr h)
        · rintro (h | h | h)
          · exact .inl h
          · exact .inl h
          · exact .inr h
      · simp only [List.mem_cons, ← ih]
theorem dedup_up : ∀ (l : List Int), l.Pairwise (· ≤ ·) → (dedup l).Pairwise (· < ·) := by
  intro l
  induction l with
  | nil => intro _; simp [dedup]
  | cons x l ih =>
    intro h
    rw [List.pairwise_cons] at h
    have h2 := ih h.2
    have hm := fun n => mem_dedup (n := n) l
    simp only [dedup]
    rcases hd : dedup l with _ | ⟨y, m⟩
    · simp
    · rw [hd] at h2 hm
      rw [List.pairwise_cons] at h2
      have hxy : x ≤ y := h.1 y ((hm y).1 (by simp))
      simp only
      split
      · rename_i e
        subst e
        rw [List.pairwise_cons]; exact h2
      · rename_i e
        rw [List.pairwise_cons, List.pairwise_cons]
        refine ⟨fun z hz => ?_, h2⟩
        rcases List.mem_cons.1 hz with rfl | hz
        · omega
        · have := h2.1 z hz; omega
theorem dedup_snoc (y : Int) : ∀ (l : List Int), dedup (l ++ [y]) = if l.getLast? = some y then dedup l else dedup l ++ [y] := by
  intro l
  induction l with
  | nil => simp [dedup]
  | cons x l ih =>
    rw [List.cons_append]
    rcases l with _ | ⟨z, l⟩
    · simp only [dedup, List.nil_append, List.getLast?_singleton, Option.some.injEq]
      split <;> simp
    · rw [dedup, ih, List.getLast?_cons_cons]
      obtain ⟨m, hd⟩ : ∃ m, dedup (z :: l) = z :: m := ⟨_, rfl⟩
      by_cases hc : (z :: l).getLast? = some y
      · rw [if_pos hc, if_pos hc]; conv => rhs; rw [dedup]
      · rw [if_neg hc, if_neg hc]; conv => rhs; rw [dedup]
        rw [hd]
        simp only [List.cons_append]
        split <;> simp
theorem dedup_len (l : List Int) : (dedup l).length ≤ l.length := by
  induction l with
  | nil => simp [dedup]
  | cons x l ih =>
    simp only [dedup]
    rcases hd : dedup l with _ | ⟨y, m⟩
    · simp
    · rw [hd] at ih
      simp only [List.length_cons] at ih
      simp only
      split <;> simp only [List.length_cons] <;> omega
theorem dd_step {zs : List Int} {j : Nat} (hj : 0 < j) (h : j < zs.length) : dedup (zs.take (j + 1)) = if zs[j]? = zs[j - 1]? then dedup (zs.take j) else dedup (zs.take j) ++ [zs[j]] := by
  rw [List.take_succ_eq_append_getElem h, dedup_snoc]
  have e : (zs.take j).getLast? = zs[j - 1]? := by
    rw [List.getLast?_eq_getElem?, List.length_take, Nat.min_eq_left (by omega), List.getElem?_take_of_lt (by omega)]
  rw [e, List.getElem?_eq_getElem h]
  by_cases hc : zs[j - 1]? = some zs[j]
  · rw [if_pos hc, if_pos hc.symm]
  · rw [if_neg hc, if_neg fun h => hc h.symm]
/-- Where nothing has been dropped yet. -/
theorem dd_same {zs : List Int} {j : Nat} (hj : 0 < j) (h : j < zs.length) (hd : dedup (zs.take j) = zs.take j) (hne : zs[j]? ≠ zs[j - 1]?) : dedup (zs.take (j + 1)) = zs.take (j + 1) := by
  rw [dd_step hj h, if_neg hne, hd, List.take_succ_eq_append_getElem h]
theorem dd_one (zs : List Int) : dedup (zs.take 1) = zs.take 1 := by
  cases zs with
  | nil => rfl
  | cons x l => simp [dedup]
/-- A list that is being put together in place: so many were looked at, so many are kept. -/
structure Cpt (zs : List Int) (j k : Nat) (e : List Int) : Prop where
  len : e.length = zs.length
  kj : k < j
  kd : k = (dedup (zs.take j)).length
  tk : e.take k = dedup (zs.take j)
  rest : ∀ i, j ≤ i + 1 → e[i]? = zs[i]?
theorem Cpt.start {zs : List Int} {k : Nat} (hk : 0 < k) (h : k < zs.length) (hd : dedup (zs.take k) = zs.take k) (he : zs[k]? = zs[k - 1]?) : Cpt zs (k + 1) k zs := by
  have e : dedup (zs.take (k + 1)) = zs.take k := by rw [dd_step hk h, if_pos he, hd]
  exact ⟨rfl, by omega, by rw [e, List.length_take]; omega, e.symm, fun _ _ => rfl⟩
theorem Cpt.keep {zs e : List Int} {j k : Nat} (c : Cpt zs j k e) (hj : 0 < j) (h : j < zs.length) (he : zs[j]? = zs[j - 1]?) : Cpt zs (j + 1) k e := by
  have e1 : dedup (zs.take (j + 1)) = dedup (zs.take j) := by rw [dd_step hj h, if_pos he]
  exact ⟨c.len, by have := c.kj; omega, by rw [e1]; exact c.kd, by rw [e1]; exact c.tk, fun i hi => c.rest i (by omega)⟩
theorem Cpt.put {zs e : List Int} {j k : Nat} (c : Cpt zs j k e) (hj : 0 < j) (h : j < zs.length) (he : zs[j]? ≠ zs[j - 1]?) : Cpt zs (j + 1) (k + 1) (e.set k zs[j]) := by
  have e1 : dedup (zs.take (j + 1)) = dedup (zs.take j) ++ [zs[j]] := by rw [dd_step hj h, if_neg he]
  have hk := c.kj
  have hl := c.len
  refine ⟨by rw [List.length_set]; exact c.len, by omega, by rw [e1, List.length_append, ← c.kd]; rfl, ?_, fun i hi => ?_⟩
  · rw [e1, List.take_succ_eq_append_getElem (by rw [List.length_set]; omega), List.getElem_set_self, List.take_set_of_le (Nat.le_refl _), c.tk]
  · rw [List.getElem?_set_ne (by omega)]; exact c.rest i (by omega)
theorem Cpt.done {zs e : List Int} {k : Nat} (c : Cpt zs zs.length k e) : k = (dedup zs).length ∧ e.take k = dedup zs := by
  have h1 := c.kd
  have h2 := c.tk
  rw [List.take_length] at h1 h2
  exact ⟨h1, h2⟩
theorem mem_putL {n k : Int} : ∀ (l : List Int), k ∈ putL n l ↔ k = n ∨ k ∈ l := by
  intro l
  induction l with
  | nil => simp [putL]
  | cons x l ih =>
    simp only [putL]
    split
    · simp only [List.mem_cons, ih]
      constructor
      · rintro (h | h | h)
        · exact .inr (.inl h)
        · exact .inl h
        · exact .inr (.inr h)
      · rintro (h | h | h)
        · exact .inr (.inl h)
        · exact .inl h
        · exact .inr (.inr h)
    · split
      · rename_i e
        subst e
        simp
      · simp
theorem putL_up (n : Int) : ∀ (l : List Int), l.Pairwise (· < ·) → (putL n l).Pairwise (· < ·) := by
  intro l
  induction l with
  | nil => intro _; simp [putL]
  | cons x l ih =>
    intro h
    have h0 := h
    rw [List.pairwise_cons] at h
    simp only [putL]
    split
    · rename_i hx
      rw [List.pairwise_cons]
      refine ⟨fun z hz => ?_, ih h.2⟩
      rcases (mem_putL l).1 hz with rfl | hz
      · exact hx
      · exact h.1 z hz
    · split
      · exact h0
      · rename_i h1 h2
        rw [List.pairwise_cons]
        refine ⟨fun z hz => ?_, h0⟩
        rcases List.mem_cons.1 hz with rfl | hz
        · omega
        · have := h.1 z hz; omega
theorem up_ext : ∀ (a b : List Int), a.Pairwise (· < ·) → b.Pairwise (· < ·) → (∀ n, n ∈ a ↔ n ∈ b) → a = b := by
  intro a
  induction a with
  | nil =>
    intro b _ _ h
    cases b with
    | nil => rfl
    | cons y b => exact absurd ((h y).2 (by simp)) (by simp)
  | cons x a ih =>
    intro b ha hb h
    cases b with
    | nil => exact absurd ((h x).1 (by simp)) (by simp)
    | cons y b =>
      rw [List.pairwise_cons] at ha hb
      have hxy : x = y := by
        rcases List.mem_cons.1 ((h x).1 (by simp)) with e | e
        · exact e
        · rcases List.mem_cons.1 ((h y).2 (by simp)) with e' | e'
          · exact e'.symm
          · have h1 := hb.1 x e
            have h2 := ha.1 y e'
            omega
      subst hxy
      rw [ih b ha.2 hb.2 fun n => ?_]
      have hn := h n
      simp only [List.mem_cons] at hn
      constructor
      · intro k
        rcases hn.1 (.inr k) with e | e
        · have := ha.1 n k; omega
        · exact e
      · intro k
        rcases hn.2 (.inr k) with e | e
        · have := hb.1 n k; omega
        · exact e
/-- The numbers of a list, rising, each once. -/
def upL (l : List Int) : List Int := dedup (sortL l)
theorem sortL_up (l : List Int) : (sortL l).Pairwise (· ≤ ·) := by
  have := List.pairwise_mergeSort (le := fun x y : Int => decide (x ≤ y)) (fun a b c h1 h2 => by simp at *; omega) (fun a b => by simp; omega) l
  exact this.imp (fun h => by simpa using h)
theorem upL_up (l : List Int) : (upL l).Pairwise (· < ·) := dedup_up _ (sortL_up l)
theorem mem_upL {n : Int} (l : List Int) : n ∈ upL l ↔ n ∈ l := by
  unfold upL
  rw [mem_dedup]
  unfold sortL
  exact List.mem_mergeSort
theorem put_up : ∀ (l : List Int) (o : List Int), o.Pairwise (· < ·) → (l.foldl (fun o n => putL n o) o).Pairwise (· < ·) := by
  intro l
  induction l with
  | nil => intro o h; exact h
  | cons x l ih => intro o h; exact ih _ (putL_up x o h)
theorem mem_put {n : Int} : ∀ (l : List Int) (o : List Int), n ∈ l.foldl (fun o n => putL n o) o ↔ n ∈ l ∨ n ∈ o := by
  intro l
  induction l with
  | nil => intro o; simp
  | cons x l ih =>
    intro o
    simp only [List.foldl_cons, ih, mem_putL, List.mem_cons]
    constructor
    · rintro (h | h | h)
      · exact .inl (.inr h)
      · exact .inl (.inl h)
      · exact .inr h
    · rintro ((h | h) | h)
      · exact .inr (.inl h)
      · exact .inl h
      · exact .inr (.inr h)
theorem put_upL (l : List Int) : l.foldl (fun o n => putL n o) [] = upL l := by
  refine up_ext _ _ (put_up l [] (by simp)) (upL_up l) fun n => ?_
  rw [mem_put, mem_upL]; simp
theorem upL_len (l : List Int) : (upL l).length ≤ l.length := by
  have key : ∀ l : List Int, (dedup l).length ≤ l.length := by
    intro l
    induction l with
    | nil => simp [dedup]
    | cons x l ih =>
      simp only [dedup]
      rcases hd : dedup l with _ | ⟨y, m⟩
      · simp
      · rw [hd] at ih
        simp only [List.length_cons] at ih
        simp only
        split <;> simp only [List.length_cons] <;> omega
  have := key (sortL l)
  rwa [sortL_len] at this
theorem upL_nil {l : List Int} : upL l = [] ↔ l = [] := by
  constructor
  · intro h
    cases l with
    | nil => rfl
    | cons x l => exact absurd ((mem_upL (n := x) (x :: l)).2 (by simp)) (by rw [h]; simp)
  · rintro rfl; simp [upL, sortL, dedup]
def toks (l : List Acc) : List Int := l.map (·.token)
def owns (t : Int) (l : List Acc) : List Int := (l.filter fun x => decide (x.token = t)).map (·.who)
theorem mem_toks {l : List Acc} {x : Acc} (h : x ∈ l) : x.token ∈ upL (toks l) := (mem_upL _).2 (List.mem_map.2 ⟨x, h, rfl⟩)
theorem mem_owns {l : List Acc} {x : Acc} (h : x ∈ l) : x.who ∈ upL (owns x.token l) := (mem_upL _).2 (List.mem_map.2 ⟨x, List.mem_filter.2 ⟨h, by simp⟩, rfl⟩)
theorem owns_other {t : Int} {l : List Acc} {x : Acc} (h : x.token ≠ t) : owns t (l ++ [x]) = owns t l := by
  unfold owns
  rw [List.filter_append]
  simp [h]
/-- The tokens of what may be rise to the last one. -/
theorem upB_le : ∀ (l : List Acc) (h : Int) (v : Bs), upB h l = true → (∀ x ∈ l, x.token ≤ (lastS h v l).1) ∧ h ≤ (lastS h v l).1 ∧ (l ≠ [] → ∃ x ∈ l, x.token = (lastS h v l).1) ∧ ∀ (i : Nat) (a b : Acc), l[i]? = some a → l[i + 1]? = some b → a.token ≤ b.token := by
  intro l
  induction l with
  | nil => intro h v _; exact ⟨fun x hx => (by simp at hx), by simp [lastS], fun h => absurd rfl h, fun i a b h => by simp at h⟩
  | cons x l ih =>
    intro h v hu
    simp only [upB, Bool.and_eq_true, decide_eq_true_eq] at hu
    obtain ⟨h1, h2, h3, h4⟩ := ih x.token x.value hu.2
    refine ⟨fun y hy => ?_, ?_, fun _ => ?_, fun i a b ha hb => ?_⟩
    · rcases List.mem_cons.1 hy with rfl | hy
      · exact h2
      · exact h1 y hy
    · simp only [lastS]; omega
    · by_cases hn : l = []
      · subst hn; exact ⟨x, by simp, rfl⟩
      · obtain ⟨y, k1, k2⟩ := h3 hn
        exact ⟨y, by simp [k1], k2⟩
    · cases i with
      | zero =>
        cases l with
        | nil => simp at hb
        | cons y l =>
          simp at ha hb
          subst ha hb
          simp only [upB, Bool.and_eq_true, decide_eq_true_eq] at hu
          exact hu.2.1.2
      | succ i => exact h4 i a b (by simpa using ha) (by simpa using hb)
theorem last_tok {r : Rsc} (h : mayR r = true) (hne : r.log.l ≠ []) : (upL (toks r.log.l)).getLast? = some r.high := by
  obtain ⟨h1, h2, h3, h4⟩ := mayR_iff.1 h
  obtain ⟨k1, k2, k3, _⟩ := upB_le r.log.l 0 [] h1
  obtain ⟨x, hx, hxt⟩ := k3 hne
  have hmem : r.high ∈ upL (toks r.log.l) := by rw [h3, ← hxt]; exact mem_toks hx
  have hup := upL_up (toks r.log.l)
  have hle : ∀ n ∈ upL (toks r.log.l), n ≤ r.high := fun n hn => by
    rw [mem_upL] at hn
    obtain ⟨y, hy, rfl⟩ := List.mem_map.1 hn
    rw [h3]; exact k1 y hy
  generalize upL (toks r.log.l) = t at *
  rcases List.eq_nil_or_concat t with rfl | ⟨t', z, rfl⟩
  · simp at hmem
  · rw [List.concat_eq_append] at *
    rw [List.getLast?_append]
    simp only [List.getLast?_singleton, Option.some_or, Option.some.injEq]
    have hz := hle z (by simp)
    rw [List.pairwise_append] at hup
    rcases List.mem_append.1 hmem with hm | hm
    · have := hup.2.2 _ hm z (by simp); omega
    · simp at hm; exact hm.symm
end Go.Proofs.YtenndgooepdmiaaGreatDoor
end
section
namespace Go.Proofs.YtenndgooepdmiaaGreatDoor
open Go Go.AM Go.Proofs
set_option maxRecDepth 20000
set_option maxHeartbeats 1000000
set_option linter.unusedSimpArgs false
set_option linter.unusedVariables false
def argB : Bs := [97, 32, 119, 114, 105, 116, 101, 32, 116, 104, 97, 116, 32, 109, 97, 121, 32, 110, 111, 116, 32, 98, 101]
def staleB : Bs := [97, 32, 116, 111, 107, 101, 110, 32, 116, 104, 97, 116, 32, 105, 115, 32, 111, 118, 101, 114]
def fullB : Bs := [110, 111, 32, 114, 111, 111, 109]
/-- The package's variables are where they are. -/
structure Glb (H : List Blk) : Prop where
  a : H[0]? = some (.gsen 161 argB)
  b : H[1]? = some (.gsen 161 staleB)
  c : H[2]? = some (.gsen 161 fullB)
theorem Glb.app {H : List Blk} (h : Glb H) (o : List Blk) : Glb (H ++ o) := by
  refine ⟨?_, ?_, ?_⟩
  · rw [List.getElem?_append_left (List.getElem?_eq_some_iff.1 h.a).1]; exact h.a
  · rw [List.getElem?_append_left (List.getElem?_eq_some_iff.1 h.b).1]; exact h.b
  · rw [List.getElem?_append_left (List.getElem?_eq_some_iff.1 h.c).1]; exact h.c
def H0 : List Blk := [.gsen 161 argB, .gsen 161 staleB, .gsen 161 fullB]
theorem glb0 : Glb H0 := ⟨rfl, rfl, rfl⟩
def senB : Nat → GV
  | 1 => .sen 0 161 argB
  | 2 => .sen 1 161 staleB
  | _ => .sen 2 161 fullB
/-- A list of writes as it is handed on: as it is, or one of the calls' own that is nil. -/
inductive LgOk (H : List Blk) (s : Sl Acc) : AV → Prop
  | g : LgOk H s (.g (Accs.g s))
  | ms (id : Nat) (hs : s = .nil) (h : H[id]? = some (.rows 3 1 [])) : LgOk H s (.ms id 1 3 0 0)
theorem getB_in {H : List Blk} {id : Nat} {b : Blk} (h : H[id]? = some b) (t : List (Nat × AV)) (o : List Blk) : getB H ⟨t, [], o⟩ id = some b := by
  rw [getB_old (List.getElem?_eq_some_iff.1 h).1, h]; rfl
theorem lenV_lg {H : List Blk} {s : Sl Acc} {v : AV} (h : LgOk H s v) (t : List (Nat × AV)) (o : List Blk) : lenV H ⟨t, [], o⟩ v = some s.l.length := by
  cases h with
  | g => exact lenV_Sl ..
  | ms id hs h => subst hs; simp [lenV, cur, getB_in h]
theorem check_ev {H : List Blk} (hG : Glb H) (r : Rsc) (lg : AV) (hlg : LgOk H r.log lg) (x : Acc) :
    EvF tab 21 [.agg [I r.high, T r.value, lg], A x.c] H = some (if ck r x = 0 then ⟨.g .nif, [], [.cells [I r.high, T r.value, lg], .cells (x.c.map .g)]⟩
      else ⟨.ifa 86 (.ptr (H.length + 2) 0), [], [.cells [I r.high, T r.value, lg], .cells (x.c.map .g), .cells [I x.token, .g (senB (ck r x))]]⟩) := by
  have g0 := getB_in hG.a
  have g1 := getB_in hG.b
  have g2 := getB_in hG.c
  have hl := lenV_lg hlg
  refine EvF_walk t21 (by simp) ?_
  obtain ⟨xw, xt, xv⟩ := x
  obtain ⟨rh, rv, rl⟩ := r
  simp only at hl ⊢
  have k1 : ∀ b, accOk ⟨xw, xt, xv⟩ = b → b = (decide (1 ≤ xt) && decide (xt ≤ 1099511627775) && decide (0 ≤ xw) && decide (xw ≤ 1099511627775) && decide (xv.length ≤ 20)) := fun b hb => hb.symm
  unfold ck
  by_cases h1 : xt < 1
  · simp -implicitDefEqProofs [A, Acc.c, hl, g0, g1, g2, h1, senB, accOk, show ¬ 1 ≤ xt by omega]
  · by_cases h2 : 1099511627775 < xt
    · simp -implicitDefEqProofs [A, Acc.c, hl, g0, g1, g2, h1, h2, senB, accOk, show ¬ xt ≤ 1099511627775 by omega]
    · by_cases h3 : xw < 0
      · simp -implicitDefEqProofs [A, Acc.c, hl, g0, g1, g2, h1, h2, h3, senB, accOk, show ¬ 0 ≤ xw by omega]
      · by_cases h4 : 1099511627775 < xw
        · simp -implicitDefEqProofs [A, Acc.c, hl, g0, g1, g2, h1, h2, h3, h4, senB, accOk, show ¬ xw ≤ 1099511627775 by omega]
        · by_cases h5 : 20 < xv.length
          · have h5' : (20 : Int) < (xv.length : Int) := by omega
            simp -implicitDefEqProofs [A, Acc.c, hl, g0, g1, g2, h1, h2, h3, h4, h5', senB, accOk, show ¬ xv.length ≤ 20 by omega]
          · have h5' : ¬ (20 : Int) < (xv.length : Int) := by omega
            have hok : accOk ⟨xw, xt, xv⟩ = true := by simp [accOk]; omega
            by_cases h6 : xt < rh
            · simp -implicitDefEqProofs [A, Acc.c, hl, g0, g1, g2, h1, h2, h3, h4, h5', h6, senB, hok]
            · by_cases h7 : 40 ≤ rl.l.length
              · have h7' : (40 : Int) ≤ (rl.l.length : Int) := by omega
                simp -implicitDefEqProofs [A, Acc.c, hl, g0, g1, g2, h1, h2, h3, h4, h5', h6, h7, h7', senB, hok]
              · have h7' : ¬ (40 : Int) ≤ (rl.l.length : Int) := by omega
                simp -implicitDefEqProofs [A, Acc.c, hl, g0, g1, g2, h1, h2, h3, h4, h5', h6, h7, h7', senB, hok]
theorem is_ev {H : List Blk} {id : Nat} {x : AV} {k k' : Nat} {b b' : Bs} (h : H[id]? = some (.cells [x, .g (.sen k' 161 b')])) (hb : k = k' ∨ b ≠ b') :
    EvF tab 46 [.ifa 86 (.ptr id 0), .g (.sen k 161 b)] H = some ⟨B (decide (k = k')), [], []⟩ := by
  refine EvF_ext rfl (fun _ _ h => by cases h) ?_
  show orX _ _ _ _ _ = _
  by_cases hk : k = k'
  · simp [orX, isX, isA, h, hk]
  · have hb2 : b ≠ b' := hb.resolve_left hk
    simp [orX, isX, isA, h, hk, hb2]
theorem code_ev {H : List Blk} (hG : Glb H) {id : Nat} {x : AV} {k : Nat} (hk : k = 1 ∨ k = 2 ∨ k = 3) (h : H[id]? = some (.cells [x, .g (senB k)])) :
    EvF tab 22 [.ifa 86 (.ptr id 0)] H = some ⟨I (codeN k), [], []⟩ := by
  have g0 := getB_in hG.a
  have g1 := getB_in hG.b
  have g2 := getB_in hG.c
  refine EvF_walk t22 (by simp) ?_
  rcases hk with rfl | rfl | rfl
  · have m1 := is_ev (k := 0) (b := argB) h (.inl rfl)
    simp -implicitDefEqProofs [g0, g1, g2, m1, codeN]
  · have m1 := is_ev (k := 0) (b := argB) h (.inr (by decide))
    have m2 := is_ev (k := 1) (b := staleB) h (.inl rfl)
    simp -implicitDefEqProofs [g0, g1, g2, m1, m2, codeN]
  · have m1 := is_ev (k := 0) (b := argB) h (.inr (by decide))
    have m2 := is_ev (k := 1) (b := staleB) h (.inr (by decide))
    have m3 := is_ev (k := 2) (b := fullB) h (.inl rfl)
    simp -implicitDefEqProofs [g0, g1, g2, m1, m2, m3, codeN]
end Go.Proofs.YtenndgooepdmiaaGreatDoor
end
section
namespace Go.Proofs.YtenndgooepdmiaaGreatDoor
open Go Go.AM Go.Proofs
set_option maxRecDepth 20000
set_option maxHeartbeats 1000000
set_option linter.unusedSimpArgs false
set_option linter.unusedVariables false
theorem concatTA : ∃ m msg m' msg', tab.T 47 = some (concatF 3 32 67 m msg) ∧ tab.T 67 = some (growF 3 32 [.int .i64 0, .int .i64 0, .str []] m' msg') :=
  ⟨_, _, _, _, t47, t67⟩
theorem concatA_ev (a b : Sl Acc) (hn : a.l.length + b.l.length ≤ 1099511627776) (H : List Blk) :
    EvF tab 47 [.g (.sl 1 [[Accs.g a], [Accs.g b]])] H = some ⟨.g (nslG 3 Acc.c (a.l ++ b.l)), [], []⟩ := by
  obtain ⟨m, msg, m', msg', h1, h2⟩ := concatTA
  exact concat_ev h1 h2 a b (by omega) (by omega) H
theorem take_ev {H : List Blk} (r : Rsc) (lg : AV) (hlg : LgOk H r.log lg) (x : Acc) (hl : r.log.l.length ≤ 1000000) :
    EvF tab 23 [.agg [I r.high, T r.value, lg], A x.c] H = some ⟨A (takeR r x).c, [], []⟩ := by
  refine EvF_walk t23 (by simp) ?_
  obtain ⟨xw, xt, xv⟩ := x
  obtain ⟨rh, rv, rl⟩ := r
  simp only at hl hlg ⊢
  have m1 := fun H => concatA_ev rl (.of [⟨xw, xt, xv⟩]) (by simp; omega) H
  simp only [Sl.l_of, Accs.g, Sl.g_of, List.map_cons, List.map_nil, Acc.c, nslG, List.append_eq_nil_iff, List.cons_ne_nil, and_false, if_false] at m1
  cases hlg with
  | g => simp -implicitDefEqProofs [A, Acc.c, Rsc.c, takeR, Accs.g, m1, chunk]
  | ms id hs h =>
    subst hs
    simp only [Sl.g_nil, Sl.l_nil, List.nil_append] at m1
    simp -implicitDefEqProofs [A, Acc.c, Rsc.c, takeR, Accs.g, m1, chunk, getB_in h]
theorem Write_ev {H : List Blk} (hG : Glb H) (r : Rsc) (x : Acc) :
    EvF tab 13 [A r.c, I x.who, I x.token, T x.value] H = some ⟨.tup [A (wrR r x).c, I (wrE r x)], [], []⟩ := by
  have c1 := fun o => check_ev (hG.app o) r (.g (Accs.g r.log)) .g x
  have c3 := fun (hc : ck r x = 0) H' => take_ev (H := H') r (.g (Accs.g r.log)) .g x (by have := (ck_zero.1 hc).2.2; omega)
  refine EvF_walk t13 (by simp) ?_
  have hk : ck r x = 0 ∨ (ck r x = 1 ∨ ck r x = 2 ∨ ck r x = 3) := by
    unfold ck; repeat' split
    all_goals simp
  have c2 := fun hk o (id : Nat) (y : AV) h => code_ev (hG.app o) (id := id) (x := y) (k := ck r x) hk h
  unfold wrR wrE
  obtain ⟨xw, xt, xv⟩ := x
  obtain ⟨rh, rv, rl⟩ := r
  simp only [A, Acc.c, Rsc.c, List.map_cons, List.map_nil] at c1 c3 ⊢
  generalize ck ⟨rh, rv, rl⟩ ⟨xw, xt, xv⟩ = k at c1 c2 c3 hk ⊢
  rcases hk with rfl | hk
  · have c3 := c3 rfl
    simp only [takeR, Accs.g, Sl.g_of] at c3
    simp -implicitDefEqProofs [takeR, Rsc.c, Acc.c, Accs.g, c1, c3, codeN]
  · have hk0 : k ≠ 0 := by omega
    have c2 := c2 hk
    simp only [if_neg hk0] at c1 ⊢
    simp -implicitDefEqProofs [Rsc.c, Acc.c, Accs.g, c1, c2]
end Go.Proofs.YtenndgooepdmiaaGreatDoor
end
section
namespace Go.Proofs.YtenndgooepdmiaaGreatDoor
open Go Go.AM Go.Proofs
set_option maxRecDepth 20000
set_option maxHeartbeats 1000000
set_option linter.unusedSimpArgs false
set_option linter.unusedVariables false
def lgV (n : Nat) : Sl Acc → AV
  | .nil => .ms n 1 3 0 0
  | .of l => .g (Accs.g (.of l))
theorem lgV_of (n : Nat) (l : List Acc) : lgV n (.of l) = .g (Accs.g (.of l)) := rfl
theorem lgV_ok {H : List Blk} {n : Nat} (h : H[n]? = some (.rows 3 1 [])) : ∀ s, LgOk H s (lgV n s)
  | .nil => .ms n rfl h
  | .of l => .g
theorem runG_go : ∀ (l : List Acc) (k : Nat) (s : Rsc), runG (fun _ (x : Acc) (s : Rsc) => (if ck s x = 0 then .inl (takeR s x) else .inr () : Rsc ⊕ Unit)) k l s = match goL s l with
    | some s' => .inl s'
    | none => .inr () := by
  intro l
  induction l with
  | nil => intro k s; rfl
  | cons x l ih =>
    intro k s
    simp only [runG, goL]
    by_cases h : ck s x = 0
    · simp only [if_pos h]; exact ih _ _
    · simp only [if_neg h]
def rC0 (r : Rsc) (lg : AV) : Blk := .cells [I r.high, T r.value, lg]
theorem May_ev {H : List Blk} (hG : Glb H) (r : Rsc) (hl : r.log.l.length ≤ 9223372036854775807) : EvF tab 15 [A r.c] H = some ⟨B (mayR r), [], []⟩ := by
  have hw := loop_runJ (E := EvF tab) (h := H) (c := L15_0) (lv := [1, 3, 7, 8, 9]) (l := r.log.l) (β := Rsc) (γ := Unit) (fun k s => True) (fun _ x s => if ck s x = 0 then .inl (takeR s x) else .inr ())
    (fun k s o => ⟨[(1, .ptr H.length 0), (3, .ptr (H.length + 2) 0), (7, .g (Accs.g r.log)), (8, I r.log.l.length), (9, I k)], [], rC0 r (.g (Accs.g r.log)) :: .rows 3 1 [] :: rC0 s (lgV (H.length + 1) s.log) :: o⟩)
    (fun s o => (.exit 0, ⟨[(1, .ptr H.length 0), (3, .ptr (H.length + 2) 0), (7, .g (Accs.g r.log)), (8, I r.log.l.length), (9, I r.log.l.length), (10, B false)], [], rC0 r (.g (Accs.g r.log)) :: .rows 3 1 [] :: rC0 s (lgV (H.length + 1) s.log) :: o⟩))
    (fun _ o => (.ret, ⟨[(2, B false)], [], o⟩)) (by simp) (by simp) (fun k x s o hk hx hy hi => ?_) (fun s o _ => by delta L15_0; simp -implicitDefEqProofs) zR [] trivial
  · obtain ⟨o', hw⟩ := hw
    rw [runG_go] at hw
    refine EvF_walk t15 (by simp) ?_
    unfold mayR
    simp only [zR, lgV, rC0] at hw
    rcases hg : goL zR r.log.l with _ | s
    · simp only [zR] at hg
      rw [hg] at hw
      simp only [endJ, Int.ofNat_zero, Int.cast_ofNat_Int, Int.natCast_zero] at hw
      simp -implicitDefEqProofs [A, Rsc.c, zres, hw]
    · simp only [zR] at hg
      rw [hg] at hw
      simp only [endJ, Int.ofNat_zero, Int.cast_ofNat_Int, Int.natCast_zero] at hw
      by_cases h1 : s.high = r.high
      · simp -implicitDefEqProofs [A, Rsc.c, zres, hw, h1]
        exact Bool.eq_iff_iff.2 (by simp)
      · simp -implicitDefEqProofs [A, Rsc.c, zres, hw, h1]
  · have e2 := wrap_succ hk hl
    delta L15_0
    have hr : ∀ (P Q : Blk) o, (H ++ P :: .rows 3 1 [] :: Q :: o)[H.length + 1]? = some (.rows 3 1 []) := fun P Q o => by
      rw [List.getElem?_append_right (by omega)]; simp
    have c1 := fun P Q o => check_ev (hG.app (P :: .rows 3 1 [] :: Q :: o)) s _ (lgV_ok (hr P Q o) s.log) x
    have c2 := fun (hc : ck s x = 0) P Q o => take_ev s _ (lgV_ok (hr P Q o) s.log) x (by have := (ck_zero.1 hc).2.2; omega)
    have hx2 : r.log.l[k]? = some x := hx
    obtain ⟨rh, rv, rl⟩ := r
    cases rl with
    | nil => simp at hk
    | of l =>
      simp only [Sl.l_of] at hk hy hl hx2 e2
      unfold rC0
      simp only [A, Acc.c, List.map_cons, List.map_nil] at c1 c2
      by_cases hc : ck s x = 0
      · have c2 := c2 hc
        simp only [hc, if_true] at c1 ⊢
        refine ⟨trivial, ?_⟩
        simp only [takeR, Rsc.c, List.map_cons, List.map_nil] at c2
        refine ⟨o ++ [.cells (x.c.map .g), rC0 s (lgV (H.length + 1) s.log), .cells (x.c.map .g)], ?_⟩
        unfold rC0
        simp -implicitDefEqProofs [hk, hy, Acc.c, takeR, lgV_of, e2, c1, c2]
      · simp only [if_neg hc] at c1 ⊢
        refine ⟨rC0 ⟨rh, rv, .of l⟩ (.g (Accs.g (.of l))) :: .rows 3 1 [] :: rC0 s (lgV (H.length + 1) s.log) :: (o ++ [.cells (x.c.map .g), rC0 s (lgV (H.length + 1) s.log), .cells (x.c.map .g), .cells [I x.token, .g (senB (ck s x))]]), ?_⟩
        unfold rC0
        simp -implicitDefEqProofs [hk, hy, Acc.c, e2, c1]
end Go.Proofs.YtenndgooepdmiaaGreatDoor
end
section
namespace Go.Proofs.YtenndgooepdmiaaGreatDoor
open Go Go.AM Go.Proofs
set_option maxRecDepth 20000
set_option maxHeartbeats 1000000
set_option linter.unusedSimpArgs false
set_option linter.unusedVariables false
theorem Ints_ev (s : Sl Int) (hl : s.l.length ≤ 9223372036854775807) (H : List Blk) : EvF tab 8 [.g (Ints.g s), .g (Ints.g s)] H = some ⟨B true, [], []⟩ := by
  have hw : loopE (EvF tab) H L8_0 [0, 1, 5] ⟨[(0, .g (Ints.g s)), (1, .g (Ints.g s)), (5, I 0)], [], []⟩ = some (.exit 0, ⟨[(0, .g (Ints.g s)), (1, .g (Ints.g s)), (5, I s.l.length), (14, B false)], [], []⟩) := by
    refine loop_cnt s.l.length (fun k => ⟨[(0, .g (Ints.g s)), (1, .g (Ints.g s)), (5, I k)], [], []⟩) _ (by simp) (fun k hk => ?_) ?_
    · delta L8_0
      have e2 := wrap_succ hk hl
      cases s with
      | nil => simp at hk
      | of l =>
        simp only [Sl.l_of] at hk
        obtain ⟨x, hx⟩ : ∃ x, l[k] = x := ⟨_, rfl⟩
        simp -implicitDefEqProofs [hk, hx, Ints.c, e2]
    · delta L8_0
      cases s <;> simp -implicitDefEqProofs
  refine EvF_walk t8 (by simp) ?_
  cases s <;> simp at hw <;> simp -implicitDefEqProofs [hw]
theorem Same_ev (r : Rsc) (hl : r.log.l.length ≤ 9223372036854775807) (H : List Blk) : EvF tab 7 [A r.c, A r.c] H = some ⟨B true, [], []⟩ := by
  obtain ⟨rh, rv, s⟩ := r
  simp only at hl
  have hw : loopE (EvF tab) H L7_0 [2, 3, 5] ⟨[(2, .ptr H.length 0), (3, .ptr (H.length + 1) 0), (5, I 0)], [], [.cells [I rh, T rv, .g (Accs.g s)], .cells [I rh, T rv, .g (Accs.g s)]]⟩ =
      some (.exit 0, ⟨[(2, .ptr H.length 0), (3, .ptr (H.length + 1) 0), (5, I s.l.length), (31, B false)], [], [.cells [I rh, T rv, .g (Accs.g s)], .cells [I rh, T rv, .g (Accs.g s)]]⟩) := by
    refine loop_cnt s.l.length (fun k => ⟨[(2, .ptr H.length 0), (3, .ptr (H.length + 1) 0), (5, I k)], [], [.cells [I rh, T rv, .g (Accs.g s)], .cells [I rh, T rv, .g (Accs.g s)]]⟩) _ (by simp) (fun k hk => ?_) ?_
    · delta L7_0
      have e2 := wrap_succ hk hl
      cases s with
      | nil => simp at hk
      | of l =>
        simp only [Sl.l_of] at hk
        obtain ⟨x, hx⟩ : ∃ x, l[k] = x := ⟨_, rfl⟩
        simp -implicitDefEqProofs [hk, hx, Acc.c, e2]
    · delta L7_0
      cases s <;> simp -implicitDefEqProofs
  refine EvF_walk t7 (by simp) ?_
  cases s <;> simp at hw <;> simp -implicitDefEqProofs [A, Rsc.c, hw]
theorem one_ev (x : Acc) (H : List Blk) : EvF tab 43 [I x.who, I x.token, T x.value] H = some ⟨B (accOk x), [], []⟩ := by
  refine EvF_walk t43 (by simp) ?_
  obtain ⟨xw, xt, xv⟩ := x
  simp only
  by_cases h1 : 1 ≤ xt
  · by_cases h2 : xt ≤ 1099511627775
    · by_cases h3 : 0 ≤ xw
      · by_cases h4 : xw ≤ 1099511627775
        · by_cases h5 : xv.length ≤ 20
          · simp -implicitDefEqProofs [accOk, h1, h2, h3, h4, h5, show (xv.length : Int) ≤ 20 by omega]
          · simp -implicitDefEqProofs [accOk, h1, h2, h3, h4, h5, show ¬ (xv.length : Int) ≤ 20 by omega]
        · simp -implicitDefEqProofs [accOk, h1, h2, h3, h4]
      · simp -implicitDefEqProofs [accOk, h1, h2, h3]
    · simp -implicitDefEqProofs [accOk, h1, h2]
  · simp -implicitDefEqProofs [accOk, h1]
theorem Write2_ev (r : Rsc) (x : Acc) (hl : r.log.l.length ≤ 9223372036854775807) (H : List Blk) :
    EvF tab 18 [A r.c, I x.who, I x.token, T x.value] H = some ⟨.tup [A (wrR r x).c, I (wrE r x)], [], []⟩ := by
  have m1 := fun H => one_ev x H
  have hlen := fun h s => lenV_Sl h s 3 Acc.c r.log
  refine EvF_walk t18 (by simp) ?_
  unfold wrR wrE
  obtain ⟨xw, xt, xv⟩ := x
  obtain ⟨rh, rv, s⟩ := r
  simp only at hl hlen m1 ⊢
  by_cases h1 : accOk ⟨xw, xt, xv⟩ = true
  · rw [h1] at m1
    by_cases h2 : xt < rh
    · have hk : ck ⟨rh, rv, s⟩ ⟨xw, xt, xv⟩ = 2 := by simp [ck, h1, h2]
      simp -implicitDefEqProofs [A, Rsc.c, Accs.g, zres, m1, h2, hk, hlen, codeN]
    · by_cases h3 : 40 ≤ s.l.length
      · have hk : ck ⟨rh, rv, s⟩ ⟨xw, xt, xv⟩ = 3 := by simp [ck, h1, h2, h3]
        simp -implicitDefEqProofs [A, Rsc.c, Accs.g, zres, m1, h2, show (40 : Int) ≤ (s.l.length : Int) by omega, hk, hlen, codeN]
      · have hk : ck ⟨rh, rv, s⟩ ⟨xw, xt, xv⟩ = 0 := by simp [ck, h1, h2, h3]
        have h3' : ¬ (40 : Int) ≤ (s.l.length : Int) := by omega
        obtain ⟨l, hs⟩ : ∃ l, s.l = l := ⟨_, rfl⟩
        have hv := fun h st => viewN_Sl h st 3 Acc.c s
        rw [hs] at h3 h3' hlen hv
        cases l with
        | nil => simp -implicitDefEqProofs [A, Rsc.c, Accs.g, Acc.c, zres, m1, h2, h3', hk, hlen, hv, hs, codeN, takeR, appV, room, chunk]
        | cons y l =>
          simp only [List.length_cons, Int.natCast_add, Int.cast_ofNat_Int] at h3 h3'
          have e1 : List.take l.length (List.map Acc.c l) = List.map Acc.c l := List.take_of_length_le (by simp)
          have e2 : ∀ z, List.take (l.length + 1) (List.map Acc.c l ++ [z]) = List.map Acc.c l ++ [z] := fun z => List.take_of_length_le (by simp)
          simp -implicitDefEqProofs [A, Rsc.c, Accs.g, Acc.c, zres, m1, h2, h3', hk, hlen, hv, hs, codeN, takeR, appV, room, chunk, e1, e2, Nat.not_succ_le_self, show l.length ≤ 140737488355327 by omega, show l.length ≤ 140737488355326 by omega, show (l.length + 1) * 32 ≤ 140737488355328 by omega, show (l.length + 1 + 1) * 32 ≤ 140737488355328 by omega]
  · rw [Bool.eq_false_iff.2 h1] at m1
    have hk : ck ⟨rh, rv, s⟩ ⟨xw, xt, xv⟩ = 1 := by simp [ck, Bool.eq_false_iff.2 h1]
    simp -implicitDefEqProofs [A, Rsc.c, Accs.g, zres, m1, hk, hlen, codeN]
end Go.Proofs.YtenndgooepdmiaaGreatDoor
end
section
namespace Go.Proofs.YtenndgooepdmiaaGreatDoor
open Go Go.AM Go.Proofs
set_option maxRecDepth 20000
set_option maxHeartbeats 2000000
set_option linter.unusedSimpArgs false
set_option linter.unusedVariables false
theorem runG_up : ∀ (l : List Acc) (k : Nat) (h : Int), runG (fun _ (x : Acc) (h : Int) => (if (accOk x && decide (h ≤ x.token)) = true then .inl x.token else .inr () : Int ⊕ Unit)) k l h = if upB h l = true then .inl (lastS h [] l).1 else .inr () := by
  intro l
  induction l with
  | nil => intro k h; simp [runG, upB, lastS]
  | cons x l ih =>
    intro k h
    have hl : ∀ (l : List Acc) (h : Int) (u v : Bs), (lastS h u l).1 = (lastS h v l).1 := by
      intro l
      induction l with
      | nil => intro h u v; rfl
      | cons x l ih => intro h u v; rfl
    by_cases hc : (accOk x && decide (h ≤ x.token)) = true
    · simp only [runG, upB, lastS, hc, if_true, Bool.true_and]
      rw [ih, hl l x.token x.value []]
    · simp only [runG, upB, if_neg hc, Bool.eq_false_iff.2 hc, Bool.false_and]
      simp
def may2 (r : Rsc) : Bool := if 40 < r.log.l.length then false else upB 0 r.log.l && (decide (r.high = (lastS 0 [] r.log.l).1) && decide (r.value = (lastS 0 [] r.log.l).2))
theorem may2_eq (r : Rsc) : may2 r = mayR r := by
  unfold may2
  apply Bool.eq_iff_iff.2
  rw [mayR_iff]
  by_cases h : 40 < r.log.l.length
  · rw [if_pos h]; simp; omega
  · rw [if_neg h]
    simp only [Bool.and_eq_true, decide_eq_true_eq]
    constructor
    · rintro ⟨a, b, c⟩; exact ⟨a, by omega, b, c⟩
    · rintro ⟨a, _, b, c⟩; exact ⟨a, b, c⟩
theorem lastS_getLast : ∀ (l : List Acc) (h : Int) (v : Bs) (hne : l ≠ []), lastS h v l = ((l.getLast hne).token, (l.getLast hne).value) := by
  intro l h v hne
  rcases List.eq_nil_or_concat l with rfl | ⟨l', z, rfl⟩
  · exact absurd rfl hne
  · simp only [List.concat_eq_append, lastS_append]
    simp
end Go.Proofs.YtenndgooepdmiaaGreatDoor
end
section
namespace Go.Proofs.YtenndgooepdmiaaGreatDoor
open Go Go.AM Go.Proofs
set_option maxRecDepth 20000
set_option maxHeartbeats 2000000
set_option linter.unusedSimpArgs false
set_option linter.unusedVariables false
/-- A row of an older block, as it now stands. -/
structure MOk (H : List Blk) (id g : Nat) (m : List (Nat × Blk)) (e : List Int) : Prop where
  lt : id < H.length
  get : ∀ t o, getB H ⟨t, m, o⟩ id = some (.rows 1 g (e.map Ints.c))
  upd : ∀ b, updM m id b = [(id, b)]
  live : ∀ o, isLiveB (applyM H m ++ o) id = true
theorem live_get {H : List Blk} {id g : Nat} {s : St} {e : List (List GV)} (h : getB H s id = some (.rows 1 g e)) : isLiveB (full H s) id = true := by
  unfold isLiveB
  rw [getB_full, h]; rfl
theorem MOk.nil {H : List Blk} {id g : Nat} {e : List Int} (h : H[id]? = some (.rows 1 g (e.map Ints.c))) : MOk H id g [] e :=
  ⟨(List.getElem?_eq_some_iff.1 h).1, fun t o => getB_in h t o, fun b => rfl, fun o => live_get (getB_in h [] o)⟩
theorem MOk.one {H : List Blk} {id g : Nat} (h : id < H.length) (e : List Int) : MOk H id g [(id, .rows 1 g (e.map Ints.c))] e := by
  have k : ∀ t o, getB H ⟨t, [(id, .rows 1 g (e.map Ints.c))], o⟩ id = some (.rows 1 g (e.map Ints.c)) := fun t o => by
    rw [getB_old h]; simp [lookM, orB]
  exact ⟨h, k, fun b => by simp [updM], fun o => live_get (k [] o)⟩
theorem cin_step {H : List Blk} {id g : Nat} {m : List (Nat × Blk)} {zs e : List Int} {k0 k p : Nat} (hM : MOk H id g m e) (hC : Cpt zs (k0 + (p + 1)) k e) (hn : zs.length ≤ 1000000) (hj : k0 + (p + 1) < zs.length) (o : List Blk) :
    kpN [0, 3, 4, 5] (evCode (EvF tab) H L45_0 ⟨[(0, .ms id g 1 0 zs.length), (3, I k), (4, .ms id g 1 k0 (zs.length - k0)), (5, I (p + 1 : Nat))], m, o⟩) =
      some (.normal, if zs[k0 + (p + 1)]? = zs[k0 + (p + 1) - 1]? then ⟨[(0, .ms id g 1 0 zs.length), (3, I k), (4, .ms id g 1 k0 (zs.length - k0)), (5, I (p + 1 + 1 : Nat))], m, o⟩
        else ⟨[(0, .ms id g 1 0 zs.length), (3, I (k + 1 : Nat)), (4, .ms id g 1 k0 (zs.length - k0)), (5, I (p + 1 + 1 : Nat))], [(id, .rows 1 g ((e.set k zs[k0 + (p + 1)]).map Ints.c))], o⟩) := by
  have gm := hM.get
  have um := hM.upd
  have lm := hM.live
  have hlt := hM.lt
  have hk := hC.kj
  have hel := hC.len
  have r1 := hC.rest (k0 + (p + 1)) (by omega)
  have r2 := hC.rest (k0 + p) (by omega)
  obtain ⟨x, hx⟩ : ∃ x, zs[k0 + (p + 1)] = x := ⟨_, rfl⟩
  obtain ⟨y, hy⟩ : ∃ y, zs[k0 + p]'(by omega) = y := ⟨_, rfl⟩
  have z1 : zs[k0 + (p + 1)]? = some x := by rw [List.getElem?_eq_getElem hj, hx]
  have z2 : zs[k0 + p]? = some y := by rw [List.getElem?_eq_getElem (by omega), hy]
  rw [z1] at r1
  rw [z2] at r2
  have z3 : zs[k0 + (p + 1) - 1]? = some y := by rw [show k0 + (p + 1) - 1 = k0 + p by omega]; exact z2
  rw [z1, z3, hx]
  have q1 : (e.map Ints.c)[k0 + (p + 1)]? = some (Ints.c x) := by rw [List.getElem?_map, r1]; rfl
  have q2 : (e.map Ints.c)[k0 + p]? = some (Ints.c y) := by rw [List.getElem?_map, r2]; rfl
  have hke : k < e.length := by omega
  obtain ⟨w, hw⟩ : ∃ w, e[k] = w := ⟨_, rfl⟩
  have q3 : (e.map Ints.c)[k]? = some (Ints.c w) := by rw [List.getElem?_map, List.getElem?_eq_getElem hke, hw]; rfl
  have i1 : (p : Int) + 1 < ((zs.length - k0 : Nat) : Int) := by omega
  have i2 : (p : Int) < ((zs.length - k0 : Nat) : Int) := by omega
  have i3 : ((p : Int) + 1).toNat = p + 1 := by omega
  have i4 : IntKind.i64.wrap (p : Int) = p := wrap_i64 (by omega) (by omega)
  have i5 : (0 : Int) ≤ (p : Int) + 1 := by omega
  have i6 : (k : Int) < (zs.length : Int) := by omega
  have i7 : IntKind.i64.wrap ((p : Int) + 1 + 1) = (p : Int) + 1 + 1 := wrap_i64 (by omega) (by omega)
  have i8 : IntKind.i64.wrap ((k : Int) + 1) = (k : Int) + 1 := wrap_i64 (by omega) (by omega)
  have sb := fun t o b => setB_old (h := H) (id := id) hlt t m o b
  delta L45_0
  by_cases hxy : x = y
  · subst hxy
    simp -implicitDefEqProofs [gm, um, lm, q1, q2, q3, i1, i2, i3, i4, i5, i6, i7, i8, Ints.c]
  · simp -implicitDefEqProofs [gm, um, lm, sb, q1, q2, q3, i1, i2, i3, i4, i5, i6, i7, i8, Ints.c, hxy, List.map_set]
theorem cin_loop {H : List Blk} {id g : Nat} {zs : List Int} {k0 : Nat} (hn : zs.length ≤ 1000000) (o : List Blk) : ∀ (d p k : Nat) (m : List (Nat × Blk)) (e : List Int), zs.length - (k0 + (p + 1)) = d → k0 + (p + 1) ≤ zs.length → MOk H id g m e → Cpt zs (k0 + (p + 1)) k e →
    ∃ k' m' e', Cpt zs zs.length k' e' ∧ MOk H id g m' e' ∧ loopE (EvF tab) H L45_0 [0, 3, 4, 5] ⟨[(0, .ms id g 1 0 zs.length), (3, I k), (4, .ms id g 1 k0 (zs.length - k0)), (5, I (p + 1 : Nat))], m, o⟩ =
      some (.exit 2, ⟨[(0, .ms id g 1 0 zs.length), (3, I k'), (4, .ms id g 1 k0 (zs.length - k0)), (5, I (zs.length - k0 : Nat)), (32, B false)], m', o⟩) := by
  intro d
  induction d with
  | zero =>
    intro p k m e hd hle hM hC
    have hp : k0 + (p + 1) = zs.length := by omega
    refine ⟨k, m, e, by rw [← hp]; exact hC, hM, ?_⟩
    have gm := hM.get
    have i0 : zs.length - k0 = p + 1 := by omega
    refine loopE_out _ _ _ _ _ _ (by simp) ?_
    rw [i0]
    delta L45_0
    simp -implicitDefEqProofs [gm]
  | succ d ih =>
    intro p k m e hd hle hM hC
    have hj : k0 + (p + 1) < zs.length := by omega
    have h1 := cin_step hM hC hn hj o
    have hle' := hC.len
    by_cases hc : zs[k0 + (p + 1)]? = zs[k0 + (p + 1) - 1]?
    · rw [if_pos hc] at h1
      rw [loopE_kp _ _ _ _ _ _ h1]
      have hC' := hC.keep (by omega) hj hc
      rw [show k0 + (p + 1) + 1 = k0 + (p + 1 + 1) by omega] at hC'
      exact ih (p + 1) k m e (by omega) (by omega) hM hC'
    · rw [if_neg hc] at h1
      rw [loopE_kp _ _ _ _ _ _ h1]
      have hC' := hC.put (by omega) hj hc
      rw [show k0 + (p + 1) + 1 = k0 + (p + 1 + 1) by omega] at hC'
      exact ih (p + 1) (k + 1) _ _ (by omega) (by omega) (MOk.one hM.lt _) hC'
theorem cout_step {H : List Blk} {id g : Nat} {zs : List Int} {q : Nat} (hH : H[id]? = some (.rows 1 g (zs.map Ints.c))) (hn : zs.length ≤ 1000000) (hq : q + 1 < zs.length) (hd : dedup (zs.take (q + 1)) = zs.take (q + 1)) (o : List Blk) :
    if zs[q + 1]? = zs[q]? then ∃ e : List Int, e.take (dedup zs).length = dedup zs ∧ (dedup zs).length ≤ e.length ∧ (dedup zs).length ≤ zs.length ∧
      kpN [0, 3] (evCode (EvF tab) H L45_1 ⟨[(0, .ms id g 1 0 zs.length), (3, I (q + 1 : Nat))], [], o⟩) = some (.ret, ⟨[(2, .ms id g 1 0 (dedup zs).length)], [(id, .rows 1 g (e.map Ints.c))], o⟩)
    else kpN [0, 3] (evCode (EvF tab) H L45_1 ⟨[(0, .ms id g 1 0 zs.length), (3, I (q + 1 : Nat))], [], o⟩) = some (.normal, ⟨[(0, .ms id g 1 0 zs.length), (3, I (q + 1 + 1 : Nat))], [], o⟩) := by
  have hM : MOk H id g [] zs := MOk.nil hH
  have gm := hM.get
  have lm := hM.live
  simp only [applyM] at lm
  obtain ⟨x, hx⟩ : ∃ x, zs[q + 1] = x := ⟨_, rfl⟩
  obtain ⟨y, hy⟩ : ∃ y, zs[q]'(by omega) = y := ⟨_, rfl⟩
  have z1 : zs[q + 1]? = some x := by rw [List.getElem?_eq_getElem hq, hx]
  have z2 : zs[q]? = some y := by rw [List.getElem?_eq_getElem (by omega), hy]
  have q1 : (zs.map Ints.c)[q + 1]? = some (Ints.c x) := by rw [List.getElem?_map, z1]; rfl
  have q2 : (zs.map Ints.c)[q]? = some (Ints.c y) := by rw [List.getElem?_map, z2]; rfl
  have i1 : (q : Int) + 1 < (zs.length : Int) := by omega
  have i2 : (q : Int) < (zs.length : Int) := by omega
  have i3 : ((q : Int) + 1).toNat = q + 1 := by omega
  have i4 : IntKind.i64.wrap (q : Int) = q := wrap_i64 (by omega) (by omega)
  have i5 : (0 : Int) ≤ (q : Int) + 1 := by omega
  have i7 : IntKind.i64.wrap ((q : Int) + 1 + 1) = (q : Int) + 1 + 1 := wrap_i64 (by omega) (by omega)
  have i8 : (q : Int) + 1 ≤ (zs.length : Int) := by omega
  by_cases hxy : x = y
  · subst hxy
    rw [if_pos (by rw [z1, z2])]
    have hC := Cpt.start (zs := zs) (k := q + 1) (by omega) hq hd (by rw [z1, show q + 1 - 1 = q by omega, z2])
    obtain ⟨k', m', e', c1, c2, c3⟩ := cin_loop (H := H) (id := id) (g := g) (zs := zs) (k0 := q + 1) hn o _ 0 (q + 1) [] zs rfl (by omega) hM hC
    have hk1 := c1.kj
    have hel := c1.len
    obtain ⟨d1, d2⟩ := c1.done
    have gm2 := c2.get
    have um2 := c2.upd
    have sb := fun t o b => setB_old (h := H) (id := id) c2.lt t m' o b
    have gs : ∀ t b o, getB H ⟨t, [(id, b)], o⟩ id = some b := fun t b o => by rw [getB_old c2.lt]; simp [lookM, orB]
    rw [← d1]
    refine ⟨e'.take k' ++ (List.replicate (zs.length - k') 0 ++ e'.drop zs.length), ?_, ?_, by omega, ?_⟩
    · rw [List.take_append_of_le_length (by simp; omega), List.take_take, Nat.min_self, d2]
    · simp; omega
    · have j1 : (k' : Int) ≤ (zs.length : Int) := by omega
      have j2 : k' + (zs.length - k') = zs.length := by omega
      have j3 : k' + (zs.length - k') ≤ e'.length := by omega
      simp only [Nat.zero_add, Int.natCast_one] at c3
      simp only [Int.natCast_add, Int.natCast_one] at c3
      delta L45_1
      simp -implicitDefEqProofs [gm, lm, q1, q2, i1, i2, i3, i4, i5, i7, i8, Ints.c, c3, gm2, um2, sb, j1, j2, j3, cutB, bnd, intOfA, gs, show zs.length ≤ e'.length by omega]
  · rw [if_neg (by rw [z1, z2]; simpa using hxy)]
    delta L45_1
    simp -implicitDefEqProofs [gm, lm, q1, q2, i1, i2, i3, i4, i5, i7, Ints.c, hxy]
end Go.Proofs.YtenndgooepdmiaaGreatDoor
end
section
namespace Go.Proofs.YtenndgooepdmiaaGreatDoor
open Go Go.AM Go.Proofs
set_option maxRecDepth 20000
set_option maxHeartbeats 2000000
set_option linter.unusedSimpArgs false
set_option linter.unusedVariables false
theorem cout_loop {H : List Blk} {id g : Nat} {zs : List Int} (hH : H[id]? = some (.rows 1 g (zs.map Ints.c))) (hn : zs.length ≤ 1000000) (o : List Blk) : ∀ (d q : Nat), zs.length - (q + 1) = d → q + 1 ≤ zs.length → dedup (zs.take (q + 1)) = zs.take (q + 1) →
    (dedup zs = zs ∧ loopE (EvF tab) H L45_1 [0, 3] ⟨[(0, .ms id g 1 0 zs.length), (3, I (q + 1 : Nat))], [], o⟩ = some (.exit 0, ⟨[(0, .ms id g 1 0 zs.length), (3, I zs.length), (13, B false)], [], o⟩)) ∨
    ∃ e : List Int, e.take (dedup zs).length = dedup zs ∧ (dedup zs).length ≤ e.length ∧ (dedup zs).length ≤ zs.length ∧
      loopE (EvF tab) H L45_1 [0, 3] ⟨[(0, .ms id g 1 0 zs.length), (3, I (q + 1 : Nat))], [], o⟩ = some (.ret, ⟨[(2, .ms id g 1 0 (dedup zs).length)], [(id, .rows 1 g (e.map Ints.c))], o⟩) := by
  intro d
  induction d with
  | zero =>
    intro q hd hle hdd
    have hq : q + 1 = zs.length := by omega
    have gm := (MOk.nil hH).get
    refine .inl ⟨by rw [hq, List.take_length] at hdd; exact hdd, ?_⟩
    refine loopE_out _ _ _ _ _ _ (by simp) ?_
    rw [hq]
    delta L45_1
    simp -implicitDefEqProofs [gm]
  | succ d ih =>
    intro q hd hle hdd
    have hq : q + 1 < zs.length := by omega
    have h1 := cout_step hH hn hq hdd o
    by_cases hc : zs[q + 1]? = zs[q]?
    · rw [if_pos hc] at h1
      obtain ⟨e, k1, k2, k3, k4⟩ := h1
      exact .inr ⟨e, k1, k2, k3, loopE_out _ _ _ _ _ _ (by simp) k4⟩
    · rw [if_neg hc] at h1
      rw [loopE_kp _ _ _ _ _ _ h1]
      exact ih (q + 1) (by omega) (by omega) (dd_same (by omega) hq hdd (by rw [show q + 1 - 1 = q by omega]; exact hc))
theorem Compact_ev {H : List Blk} {id g : Nat} {zs : List Int} (hH : H[id]? = some (.rows 1 g (zs.map Ints.c))) (hn : zs.length ≤ 1000000) :
    ∃ (e : List Int) (m : List (Nat × Blk)), e.take (dedup zs).length = dedup zs ∧ (dedup zs).length ≤ e.length ∧ ((m = [] ∧ e = zs) ∨ m = [(id, .rows 1 g (e.map Ints.c))]) ∧
      EvF tab 45 [.ms id g 1 0 zs.length] H = some ⟨.ms id g 1 0 (dedup zs).length, m, []⟩ := by
  have gm := (MOk.nil hH).get
  have hlt := (MOk.nil hH).lt
  by_cases h2 : zs.length < 2
  · have hd : dedup zs = zs := by
      match zs, h2 with
      | [], _ => rfl
      | [x], _ => rfl
    refine ⟨zs, [], by rw [hd, List.take_length], by rw [hd]; exact Nat.le_refl _, .inl ⟨rfl, rfl⟩, ?_⟩
    rw [hd]
    refine EvF_walk t45 (by simp) ?_
    simp -implicitDefEqProofs [gm, show (zs.length : Int) < 2 by omega, hlt]
  · have h2' : ¬ (zs.length : Int) < 2 := by omega
    rcases cout_loop hH hn [.rows 1 1 []] _ 0 rfl (by omega) (dd_one zs) with ⟨hd, hw⟩ | ⟨e, k1, k2, k3, hw⟩
    · simp only [Nat.zero_add, Int.natCast_one] at hw
      refine ⟨zs, [], by rw [hd, List.take_length], by rw [hd]; exact Nat.le_refl _, .inl ⟨rfl, rfl⟩, ?_⟩
      rw [hd]
      refine EvF_walk t45 (by simp) ?_
      simp -implicitDefEqProofs [gm, h2', hw, hlt]
    · simp only [Nat.zero_add, Int.natCast_one] at hw
      refine ⟨e, _, k1, k2, .inr rfl, ?_⟩
      refine EvF_walk t45 (by simp) ?_
      simp -implicitDefEqProofs [gm, h2', hw, hlt, Blk.lt1]
theorem intG_eq : intG = Ints.c := rfl
theorem sort_ev {H : List Blk} {id g : Nat} {zs : List Int} (h : H[id]? = some (.rows 1 g (zs.map Ints.c))) (hl : zs.length ≤ 1000000) : EvF tab 44 [.ms id g 1 0 zs.length] H = some ⟨.tup [], [(id, .rows 1 g ((sortL zs).map Ints.c))], []⟩ := by
  refine EvF_ext rfl (fun _ _ h => by cases h) ?_
  have e1 := intsG_map zs
  rw [intG_eq] at e1
  show orX _ _ _ _ _ = _
  have e2 : zs.length < 4611686018427387904 := by omega
  simp [orX, isX, sortX, Go.AM.sortA, h, e1, intG_eq, e2]
theorem once_ev {H : List Blk} {id g : Nat} {zs : List Int} (hH : H[id]? = some (.rows 1 g (zs.map Ints.c))) (hn : zs.length ≤ 1000000) :
    ∃ e : List Int, e.take (upL zs).length = upL zs ∧ (upL zs).length ≤ e.length ∧ EvF tab 19 [.ms id g 1 0 zs.length] H = some ⟨.ms id g 1 0 (upL zs).length, [(id, .rows 1 g (e.map Ints.c))], []⟩ := by
  have hlt := (MOk.nil hH).lt
  have hs := fun o => sort_ev (H := H ++ o) (id := id) (g := g) (zs := zs) (by rw [List.getElem?_append_left hlt]; exact hH) hn
  obtain ⟨e, m, k1, k2, k3, k4⟩ := Compact_ev (H := H.set id (.rows 1 g ((sortL zs).map Ints.c)) ++ [.rows 1 1 []]) (id := id) (g := g) (zs := sortL zs)
    (by rw [List.getElem?_append_left (by simpa using hlt), List.getElem?_set_self hlt]) (by rw [sortL_len]; exact hn)
  rw [sortL_len] at k4
  refine ⟨e, k1, k2, ?_⟩
  refine EvF_walk t19 (by simp) ?_
  unfold upL
  have sb := fun t m o b => setB_old (h := H) (id := id) hlt t m o b
  rcases k3 with ⟨rfl, rfl⟩ | rfl
  · simp -implicitDefEqProofs [hs, k4, sb, updM, applyM, hlt, Blk.lt1]
  · simp -implicitDefEqProofs [hs, k4, sb, updM, applyM, hlt, Blk.lt1]
end Go.Proofs.YtenndgooepdmiaaGreatDoor
end
section
namespace Go.Proofs.YtenndgooepdmiaaGreatDoor
open Go Go.AM Go.Proofs
set_option maxRecDepth 20000
set_option maxHeartbeats 2000000
set_option linter.unusedSimpArgs false
set_option linter.unusedVariables false
def slI (l : List Int) : Sl Int := if l = [] then .nil else .of l
theorem runG_acc (p : Acc → Bool) (f : Acc → Int) : ∀ (l : List Acc) k r, runG (fun _ (x : Acc) (r : List Int) => (if p x = true then .inl (r ++ [f x]) else .inl r : List Int ⊕ Nat)) k l r = .inl (r ++ (l.filter p).map f) := by
  intro l
  induction l with
  | nil => intro k r; simp [runG]
  | cons x l ih =>
    intro k r
    cases h : p x
    · simp only [runG, h, Bool.false_eq_true, if_false, List.filter_cons]
      exact ih _ _
    · simp only [runG, h, if_true, List.filter_cons]
      rw [ih]; simp
theorem Tokens_ev (r : Rsc) (hl : r.log.l.length ≤ 1000000) (H : List Blk) : EvF tab 9 [A r.c] H = some ⟨.g (Ints.g (slI (upL (toks r.log.l)))), [], []⟩ := by
  obtain ⟨rh, rv, s⟩ := r
  simp only at hl ⊢
  have hw := loop_runJ (E := EvF tab) (h := H) (c := L9_0) (lv := [3, 7, 8, 9]) (l := s.l) (β := List Int) (γ := Nat) (fun k r => r.length ≤ k) (fun _ x r => if (fun _ : Acc => true) x = true then .inl (r ++ [Acc.token x]) else .inl r)
    (fun k r o => ⟨[(3, .ms (H.length + 2) (r.length + 1) 1 0 r.length), (7, .g (Accs.g s)), (8, I s.l.length), (9, I k)], [], .cells [I rh, T rv, .g (Accs.g s)] :: .rows 1 1 [] :: .rows 1 (r.length + 1) (r.map Ints.c) :: o⟩)
    (fun r o => (.exit 0, ⟨[(3, .ms (H.length + 2) (r.length + 1) 1 0 r.length), (7, .g (Accs.g s)), (8, I s.l.length), (9, I s.l.length), (10, B false)], [], .cells [I rh, T rv, .g (Accs.g s)] :: .rows 1 1 [] :: .rows 1 (r.length + 1) (r.map Ints.c) :: o⟩))
    (fun _ o => (.ret, ⟨[], [], o⟩)) (by simp) (by simp) (fun k x r o hk hx hy hi => ?_) (fun r o _ => by delta L9_0; simp -implicitDefEqProofs) [] [] (by simp)
  · obtain ⟨o', hw⟩ := hw
    rw [runG_acc (fun _ => true) Acc.token] at hw
    simp only [endJ, List.nil_append, List.map_nil, List.length_nil, Int.ofNat_zero, Int.cast_ofNat_Int, Int.natCast_zero, Nat.zero_add] at hw
    rw [show s.l.filter (fun _ => true) = s.l by simp] at hw
    rw [show s.l.map Acc.token = toks s.l from rfl] at hw
    obtain ⟨r, hr⟩ : ∃ r, toks s.l = r := ⟨_, rfl⟩
    have hrl : r.length ≤ 1000000 := by rw [← hr]; simpa [toks] using hl
    rw [hr] at hw ⊢
    obtain ⟨e, k1, k2, k3⟩ := once_ev (H := H ++ .cells [I rh, T rv, .g (Accs.g s)] :: .rows 1 1 [] :: .rows 1 (r.length + 1) (r.map Ints.c) :: o') (id := H.length + 2) (g := r.length + 1) (zs := r) (by rw [List.getElem?_append_right (by omega)]; simp) hrl
    have hn := upL_nil (l := r)
    have e1 : List.take (upL r).length (List.map Ints.c e) = List.map Ints.c (upL r) := by rw [← List.map_take, k1]
    have hne : r = [] ↔ upL r = [] := hn.symm
    refine EvF_walk t9 (by simp) ?_
    generalize upL r = u at *
    by_cases h0 : r = []
    · have hu := hne.1 h0
      subst h0 hu
      simp only [List.length_nil, Nat.zero_add, List.map_nil] at hw k3
      simp -implicitDefEqProofs [A, Rsc.c, hw, k3, slI, updM]
    · have hu : u ≠ [] := fun e => h0 (hne.2 e)
      have hr0 : r.length ≠ 0 := fun e => h0 (List.eq_nil_of_length_eq_zero e)
      simp -implicitDefEqProofs [A, Rsc.c, hw, k3, slI, hu, h0, e1, k2, hr0, updM]
  · have e2 := wrap_succ hk (by omega)
    delta L9_0
    cases s with
    | nil => simp at hk
    | of l =>
      simp only [Sl.l_of] at hk hy hl
      have e3 : List.take r.length (List.map Ints.c r) = List.map Ints.c r := List.take_of_length_le (by simp)
      simp only [if_true]
      refine ⟨by simp; omega, o ++ [.cells (x.c.map .g)], ?_⟩
      simp -implicitDefEqProofs [hk, hy, Acc.c, e2, appV, room, Nat.not_succ_le_self, chunk, Ints.c, show r.length + 1 ≤ 140737488355328 by omega, show (r.length + 1) * 8 ≤ 140737488355328 by omega, e3]
theorem Owners_ev (r : Rsc) (t : Int) (hl : r.log.l.length ≤ 1000000) (H : List Blk) : EvF tab 11 [A r.c, I t] H = some ⟨.g (Ints.g (slI (upL (owns t r.log.l)))), [], []⟩ := by
  obtain ⟨rh, rv, s⟩ := r
  simp only at hl ⊢
  have hw := loop_runJ (E := EvF tab) (h := H) (c := L11_0) (lv := [1, 5, 9, 10, 11]) (l := s.l) (β := List Int) (γ := Nat) (fun k r => r.length ≤ k) (fun _ x r => if (fun x : Acc => decide (x.token = t)) x = true then .inl (r ++ [Acc.who x]) else .inl r)
    (fun k r o => ⟨[(1, I t), (5, .ms (H.length + 2) (r.length + 1) 1 0 r.length), (9, .g (Accs.g s)), (10, I s.l.length), (11, I k)], [], .cells [I rh, T rv, .g (Accs.g s)] :: .rows 1 1 [] :: .rows 1 (r.length + 1) (r.map Ints.c) :: o⟩)
    (fun r o => (.exit 0, ⟨[(1, I t), (5, .ms (H.length + 2) (r.length + 1) 1 0 r.length), (9, .g (Accs.g s)), (10, I s.l.length), (11, I s.l.length), (12, B false)], [], .cells [I rh, T rv, .g (Accs.g s)] :: .rows 1 1 [] :: .rows 1 (r.length + 1) (r.map Ints.c) :: o⟩))
    (fun _ o => (.ret, ⟨[], [], o⟩)) (by simp) (by simp) (fun k x r o hk hx hy hi => ?_) (fun r o _ => by delta L11_0; simp -implicitDefEqProofs) [] [] (by simp)
  · obtain ⟨o', hw⟩ := hw
    rw [runG_acc (fun x : Acc => decide (x.token = t)) Acc.who] at hw
    simp only [endJ, List.nil_append, List.map_nil, List.length_nil, Int.ofNat_zero, Int.cast_ofNat_Int, Int.natCast_zero, Nat.zero_add] at hw
    rw [show (s.l.filter fun x => decide (x.token = t)).map Acc.who = owns t s.l from rfl] at hw
    obtain ⟨r, hr⟩ : ∃ r, owns t s.l = r := ⟨_, rfl⟩
    have hrl : r.length ≤ 1000000 := by
      rw [← hr]; unfold owns; rw [List.length_map]
      exact Nat.le_trans (List.length_filter_le ..) hl
    rw [hr] at hw ⊢
    obtain ⟨e, k1, k2, k3⟩ := once_ev (H := H ++ .cells [I rh, T rv, .g (Accs.g s)] :: .rows 1 1 [] :: .rows 1 (r.length + 1) (r.map Ints.c) :: o') (id := H.length + 2) (g := r.length + 1) (zs := r) (by rw [List.getElem?_append_right (by omega)]; simp) hrl
    have hn := upL_nil (l := r)
    have e1 : List.take (upL r).length (List.map Ints.c e) = List.map Ints.c (upL r) := by rw [← List.map_take, k1]
    have hne : r = [] ↔ upL r = [] := hn.symm
    refine EvF_walk t11 (by simp) ?_
    generalize upL r = u at *
    by_cases h0 : r = []
    · have hu := hne.1 h0
      subst h0 hu
      simp only [List.length_nil, Nat.zero_add, List.map_nil] at hw k3
      simp -implicitDefEqProofs [A, Rsc.c, hw, k3, slI, updM]
    · have hu : u ≠ [] := fun e => h0 (hne.2 e)
      have hr0 : r.length ≠ 0 := fun e => h0 (List.eq_nil_of_length_eq_zero e)
      simp -implicitDefEqProofs [A, Rsc.c, hw, k3, slI, hu, h0, e1, k2, hr0, updM]
  · have e2 := wrap_succ hk (by omega)
    delta L11_0
    cases s with
    | nil => simp at hk
    | of l =>
      simp only [Sl.l_of] at hk hy hl
      have e3 : List.take r.length (List.map Ints.c r) = List.map Ints.c r := List.take_of_length_le (by simp)
      by_cases hd : x.token = t
      · simp only [hd, decide_true, if_true]
        refine ⟨by simp; omega, o ++ [.cells (x.c.map .g)], ?_⟩
        simp -implicitDefEqProofs [hk, hy, Acc.c, hd, e2, appV, room, Nat.not_succ_le_self, chunk, Ints.c, show r.length + 1 ≤ 140737488355328 by omega, show (r.length + 1) * 8 ≤ 140737488355328 by omega, e3]
      · simp only [hd, decide_false, Bool.false_eq_true, if_false]
        refine ⟨by omega, o ++ [.cells (x.c.map .g)], ?_⟩
        simp -implicitDefEqProofs [hk, hy, Acc.c, hd, e2]
end Go.Proofs.YtenndgooepdmiaaGreatDoor
end
section
namespace Go.Proofs.YtenndgooepdmiaaGreatDoor
open Go Go.AM Go.Proofs
set_option maxRecDepth 4000
set_option linter.unusedSimpArgs false
set_option linter.unusedVariables false
def varI (n : Nat) : Bs := if n < 128 then [] else UInt8.ofNat (n % 128 + 128) :: varI (n / 128)
termination_by n
decreasing_by omega
def varL (n : Nat) : Nat := if n < 128 then n else varL (n / 128)
termination_by n
decreasing_by omega
def varB (n : Nat) : Bs := varI n ++ [UInt8.ofNat (varL n)]
theorem varL_lt (n : Nat) : varL n < 128 := by
  induction n using Nat.strongRecOn with
  | _ n ih => rw [varL]; split; assumption; exact ih _ (by omega)
theorem varI_len (n k : Nat) (h : n < 128 ^ (k + 1)) : (varI n).length ≤ k := by
  induction k generalizing n with
  | zero => rw [varI, if_pos (by omega)]; simp
  | succ k ih =>
    rw [varI]
    split
    · simp
    · have : n / 128 < 128 ^ (k + 1) := by rw [Nat.pow_succ] at h; omega
      have := ih _ this
      simp only [List.length_cons]; omega
theorem Var_loop (n : Nat) (hn : n < 18446744073709551616) (H : List Blk) :
    loopE (EvF tab) H L55_0 [0, 3] ⟨[(0, U n), (3, .ms H.length 1 1 0 0)], [], [.rows 1 1 []]⟩ =
      some (.exit 0, ⟨[(0, U (varL n)), (3, .ms H.length ((varI n).length + 1) 1 0 (varI n).length), (5, B false)], [], [.rows 1 ((varI n).length + 1) (bytesG (varI n))]⟩) := by
  have hw := loop_meas (E := EvF tab) (h := H) (c := L55_0) (lv := [0, 3]) (β := Nat × Bs) (fun b => b.1) (fun b => b.2.length ≤ 9 ∧ b.1 < 128 ^ (10 - b.2.length))
    (fun b => ⟨[(0, U b.1), (3, .ms H.length (b.2.length + 1) 1 0 b.2.length)], [], [.rows 1 (b.2.length + 1) (bytesG b.2)]⟩)
    (fun b => (.exit 0, ⟨[(0, U (varL b.1)), (3, .ms H.length ((b.2 ++ varI b.1).length + 1) 1 0 (b.2 ++ varI b.1).length), (5, B false)], [], [.rows 1 ((b.2 ++ varI b.1).length + 1) (bytesG (b.2 ++ varI b.1))]⟩))
    (fun b hi => ?_) n (n, []) (Nat.le_refl _) ⟨by simp, by simp; omega⟩
  · simpa using hw
  · obtain ⟨m, l⟩ := b
    simp only at hi ⊢
    obtain ⟨h1, h2⟩ := hi
    by_cases hm : m < 128
    · right
      refine ⟨by simp, ?_⟩
      delta L55_0
      rw [varI, varL, if_pos hm, if_pos hm]
      simp -implicitDefEqProofs [hm, show ¬ (128 : Int) ≤ m by omega]
    · left
      have h3 : l.length ≤ 8 := by
        rcases Nat.lt_or_ge l.length 9 with h | h
        · omega
        · have : l.length = 9 := by omega
          rw [this] at h2; omega
      have hbig : m < 128 ^ 10 := Nat.lt_of_lt_of_le h2 (Nat.pow_le_pow_right (by omega) (by omega))
      obtain ⟨c, hc⟩ : ∃ c, UInt8.ofNat (m % 128 + 128) = c := ⟨_, rfl⟩
      refine ⟨(m / 128, l ++ [c]), by simp only; omega, ⟨by simp; omega, ?_⟩, ?_, ?_⟩
      · simp only [List.length_append, List.length_cons, List.length_nil]
        rw [show 10 - l.length = (10 - (l.length + (0 + 1))) + 1 by omega, Nat.pow_succ] at h2
        omega
      · simp only
        rw [varI, varL, if_neg hm, if_neg hm, hc]
        simp
      · delta L55_0
        have e1 : IntKind.u8.wrap (m : Int) = ((m % 256 : Nat) : Int) := by rw [wrap_u8]; omega
        have e2 := or_u8_128 (a := m % 256) (by omega)
        rw [show m % 256 % 128 = m % 128 by omega, ← e1] at e2
        have e4 : bytesG [UInt8.ofNat (m % 128 + 128)] = [[.int .u8 (orI .u8 (IntKind.u8.wrap (m : Int)) 128)]] := by rw [bytesG_one _ (by omega), e2]
        rw [hc] at e4
        have e5 : List.take l.length (bytesG l) = bytesG l := List.take_of_length_le (by rw [bytesG_len]; omega)
        simp -implicitDefEqProofs [hm, show (128 : Int) ≤ m by omega, chunk, appV, room, Nat.not_succ_le_self, bytesG_len, bytesG_append, e4, e5, show l.length + 1 ≤ 140737488355328 by omega, Int.fdiv_eq_ediv_of_nonneg]
theorem Var2_loop (n : Nat) (hn : n < 18446744073709551616) (H : List Blk) :
    loopE (EvF tab) H L78_0 [0, 3] ⟨[(0, U n), (3, .ms H.length 1 1 0 0)], [], [.rows 1 1 []]⟩ =
      some (.exit 0, ⟨[(0, U (varL n)), (3, .ms H.length ((varI n).length + 1) 1 0 (varI n).length), (5, B false)], [], [.rows 1 ((varI n).length + 1) (bytesG (varI n))]⟩) := by
  have hw := loop_meas (E := EvF tab) (h := H) (c := L78_0) (lv := [0, 3]) (β := Nat × Bs) (fun b => b.1) (fun b => b.2.length ≤ 9 ∧ b.1 < 128 ^ (10 - b.2.length) ∧ b.1 < 18446744073709551616)
    (fun b => ⟨[(0, U b.1), (3, .ms H.length (b.2.length + 1) 1 0 b.2.length)], [], [.rows 1 (b.2.length + 1) (bytesG b.2)]⟩)
    (fun b => (.exit 0, ⟨[(0, U (varL b.1)), (3, .ms H.length ((b.2 ++ varI b.1).length + 1) 1 0 (b.2 ++ varI b.1).length), (5, B false)], [], [.rows 1 ((b.2 ++ varI b.1).length + 1) (bytesG (b.2 ++ varI b.1))]⟩))
    (fun b hi => ?_) n (n, []) (Nat.le_refl _) ⟨by simp, by simp; omega, hn⟩
  · simpa using hw
  · obtain ⟨m, l⟩ := b
    simp only at hi ⊢
    obtain ⟨h1, h2, h64⟩ := hi
    by_cases hm : m < 128
    · right
      refine ⟨by simp, ?_⟩
      delta L78_0
      rw [varI, varL, if_pos hm, if_pos hm]
      simp -implicitDefEqProofs [hm, show ¬ (128 : Int) ≤ m by omega]
    · left
      have h3 : l.length ≤ 8 := by
        rcases Nat.lt_or_ge l.length 9 with h | h
        · omega
        · have : l.length = 9 := by omega
          rw [this] at h2; omega
      obtain ⟨c, hc⟩ : ∃ c, UInt8.ofNat (m % 128 + 128) = c := ⟨_, rfl⟩
      refine ⟨(m / 128, l ++ [c]), by simp only; omega, ⟨by simp; omega, ?_, by simp only; omega⟩, ?_, ?_⟩
      · simp only [List.length_append, List.length_cons, List.length_nil]
        rw [show 10 - l.length = (10 - (l.length + (0 + 1))) + 1 by omega, Nat.pow_succ] at h2
        omega
      · simp only
        rw [varI, varL, if_neg hm, if_neg hm, hc]
        simp
      · delta L78_0
        have e1 : IntKind.u64.wrap ((m : Int) % 128 + 128) = (m : Int) % 128 + 128 := by rw [wrap_u64_mod]; omega
        have e3 : IntKind.u8.wrap ((m : Int) % 128 + 128) = (m : Int) % 128 + 128 := wrap_u8n (by omega) (by omega)
        have e6 : IntKind.u64.wrap ((m : Int) / 128) = (m : Int) / 128 := wrap_u64 (by omega) (by omega)
        have e4 : bytesG [UInt8.ofNat (m % 128 + 128)] = [[.int .u8 ((m : Int) % 128 + 128)]] := by rw [bytesG_one _ (by omega)]; simp
        rw [hc] at e4
        have e5 : List.take l.length (bytesG l) = bytesG l := List.take_of_length_le (by rw [bytesG_len]; omega)
        simp -implicitDefEqProofs [hm, show (128 : Int) ≤ m by omega, chunk, appV, room, Nat.not_succ_le_self, bytesG_len, bytesG_append, e1, e3, e4, e5, e6, show l.length + 1 ≤ 140737488355328 by omega, Int.tdiv_eq_ediv_of_nonneg, Int.tmod_eq_emod_of_nonneg]
theorem Var_ev (n : Nat) (hn : n < 18446744073709551616) (H : List Blk) : EvF tab 55 [U n] H = some ⟨T (varB n), [], []⟩ := by
  refine EvF_walk t55 (by simp) ?_
  have hw := Var_loop n hn H
  have h1 := varL_lt n
  have h2 := varI_len n 9 (by omega)
  have e3 : IntKind.u8.wrap (varL n : Int) = (varL n : Int) := wrap_u8n (by omega) (by omega)
  have e4 : bytesG [UInt8.ofNat (varL n)] = [[.int .u8 (varL n : Int)]] := bytesG_one _ (by omega)
  have e5 : List.take (varI n).length (bytesG (varI n)) = bytesG (varI n) := List.take_of_length_le (by rw [bytesG_len]; omega)
  have e6 : evI.bytesOfG (bytesG (varI n) ++ bytesG [UInt8.ofNat (varL n)]) = some (varB n) := by rw [← bytesG_append]; exact bytesOf_bytesG _
  have e7 : List.take ((varI n).length + 1) (bytesG (varI n) ++ [[.int .u8 (varL n : Int)]]) = bytesG (varI n) ++ [[.int .u8 (varL n : Int)]] := List.take_of_length_le (by simp [bytesG_len])
  rw [e4] at e6
  simp -implicitDefEqProofs [hw, chunk, appV, room, Nat.not_succ_le_self, bytesG_len, e3, e5, e6, e7, show (varI n).length + 1 ≤ 140737488355328 by omega]
theorem Var2_ev (n : Nat) (hn : n < 18446744073709551616) (H : List Blk) : EvF tab 78 [U n] H = some ⟨T (varB n), [], []⟩ := by
  refine EvF_walk t78 (by simp) ?_
  have hw := Var2_loop n hn H
  have h1 := varL_lt n
  have h2 := varI_len n 9 (by omega)
  have e3 : IntKind.u8.wrap (varL n : Int) = (varL n : Int) := wrap_u8n (by omega) (by omega)
  have e4 : bytesG [UInt8.ofNat (varL n)] = [[.int .u8 (varL n : Int)]] := bytesG_one _ (by omega)
  have e5 : List.take (varI n).length (bytesG (varI n)) = bytesG (varI n) := List.take_of_length_le (by rw [bytesG_len]; omega)
  have e6 : evI.bytesOfG (bytesG (varI n) ++ bytesG [UInt8.ofNat (varL n)]) = some (varB n) := by rw [← bytesG_append]; exact bytesOf_bytesG _
  have e7 : List.take ((varI n).length + 1) (bytesG (varI n) ++ [[.int .u8 (varL n : Int)]]) = bytesG (varI n) ++ [[.int .u8 (varL n : Int)]] := List.take_of_length_le (by simp [bytesG_len])
  rw [e4] at e6
  simp -implicitDefEqProofs [hw, chunk, appV, room, Nat.not_succ_le_self, bytesG_len, e3, e5, e6, e7, show (varI n).length + 1 ≤ 140737488355328 by omega]
/-! ### Read -/
end Go.Proofs.YtenndgooepdmiaaGreatDoor
end
section
namespace Go.Proofs.YtenndgooepdmiaaGreatDoor
open Go Go.AM Go.Proofs
set_option maxRecDepth 4000
set_option linter.unusedSimpArgs false
set_option linter.unusedVariables false
def wB (ad : AV) (q g : Nat) (s : Bs) : Blk := .bld 62 [ad, .ms q g 1 0 s.length]
def wR (g : Nat) (s : Bs) : Blk := .trow 5 1 g (bytesG s)
/-- A writer at block p, its row at block q, holding the bytes s. -/
structure Wr (H : List Blk) (fr : Bool) (p q g : Nat) (s : Bs) : Prop where
  hp : H[p]? = some (wB (if fr = true then .g .nptr else .ptr p 0) q g s)
  hq : H[q]? = some (wR g s)
theorem Wr.lt {H : List Blk} {fr : Bool} {p q g : Nat} {s : Bs} (h : Wr H fr p q g s) : p < H.length ∧ q < H.length ∧ p ≠ q := by
  refine ⟨(List.getElem?_eq_some_iff.1 h.hp).1, (List.getElem?_eq_some_iff.1 h.hq).1, fun e => ?_⟩
  subst e
  have := h.hq
  rw [h.hp] at this; cases this
/-- What has changed, in the order in which it is told. -/
def mPQ (fr : Bool) (p q g : Nat) (s : Bs) : List (Nat × Blk) := if fr = true then [(p, wB (.ptr p 0) q g s), (q, wR g s)] else [(q, wR g s), (p, wB (.ptr p 0) q g s)]
theorem noesc_ev (i o : Nat) (H : List Blk) : EvF tab 93 [.ptr i o] H = some ⟨.ptr i o, [], []⟩ := EvF_ext tx93 (fun _ _ h => by cases h) rfl
theorem cc0_ev {H : List Blk} {p q g : Nat} {s : Bs} (hp : H[p]? = some (wB (.g .nptr) q g s)) (hpl : p < H.length) (hql : q < H.length) :
    EvF tab 74 [.ptr p 0] H = some ⟨.tup [], [(p, wB (.ptr p 0) q g s)], []⟩ := by
  refine EvF_walk t74 (by simp) ?_
  unfold wB at hp ⊢
  have hp2 := (List.getElem?_eq_some_iff.1 hp).2
  simp -implicitDefEqProofs [hp2, hpl, hql, getB_old, setB_old, St.kp, updM, noesc_ev]
theorem cc1_ev {H : List Blk} {p q g : Nat} {s : Bs} (hp : H[p]? = some (wB (.ptr p 0) q g s)) (hpl : p < H.length) (hql : q < H.length) :
    EvF tab 74 [.ptr p 0] H = some ⟨.tup [], [], []⟩ := by
  refine EvF_walk t74 (by simp) ?_
  unfold wB at hp
  have hp2 := (List.getElem?_eq_some_iff.1 hp).2
  simp -implicitDefEqProofs [hp2, hpl, hql, getB_old, setB_old, St.kp, updM]
theorem appTV_app {e : TypeId} {h : List Blk} {st : St} {q g : Nat} {s t : Bs} (ht : t ≠ []) (hr : s.length + t.length ≤ 140737488355328) (hq : getB h st q = some (.trow e 1 g (bytesG s))) :
    appTV e h st 1 1 q g 0 s.length (bytesG t) = some (.ms q (g + 1) 1 0 (s ++ t).length, setB h st q (.trow e 1 (g + 1) (bytesG (s ++ t))), [q]) := by
  cases t with
  | nil => exact absurd rfl ht
  | cons b t =>
    have h1 : (bytesG (b :: t)).length = t.length + 1 := by rw [bytesG_len]; rfl
    have h2 : bytesG (b :: t) = [.int .u8 b.toNat] :: bytesG t := rfl
    have h3 : bytesG (s ++ b :: t) = bytesG s ++ [.int .u8 b.toNat] :: bytesG t := by rw [bytesG_append, h2]
    have h4 : (bytesG s).length = s.length := bytesG_len s
    have h5 : (bytesG t).length = t.length := bytesG_len t
    simp only [List.length_cons] at hr
    simp only [appTV, h2, hq, h3]
    have h6 : ¬ 0 + s.length + (t.length + 1) ≤ s.length := by omega
    simp only [true_and, and_self, if_true, List.length_cons, h4, h5, h6, if_false, Nat.le_refl, room, List.length_append, List.take_of_length_le (Nat.le_of_eq h4)]
    have h7 : s.length + (t.length + 1) ≤ 140737488355328 := hr
    simp [h7]
theorem appTV_none {e : TypeId} {h : List Blk} {st : St} {q g : Nat} {s : Bs} (hq : getB h st q = some (.trow e 1 g (bytesG s))) :
    appTV e h st 1 1 q g 0 s.length [] = some (.ms q g 1 0 s.length, st, []) := by
  simp [appTV, cur, hq]
theorem WS_ev {H : List Blk} {fr : Bool} {p q g : Nat} {s : Bs} (w : Wr H fr p q g s) (t : Bs) (ht : t ≠ []) (hr : s.length + t.length ≤ 140737488355328) :
    EvF tab 54 [.ptr p 0, T t] H = some ⟨.tup [I t.length, .g .nif], mPQ fr p q (g + 1) (s ++ t), []⟩ := by
  obtain ⟨hpl, hql, hne⟩ := w.lt
  have hq2 := (List.getElem?_eq_some_iff.1 w.hq).2
  have ha := fun (st : St) => appTV_app (e := 5) (h := H) (st := st) (q := q) (g := g) ht hr
  refine EvF_walk t54 (by simp) ?_
  have hp := w.hp
  unfold mPQ
  cases fr
  · rw [if_neg (by simp)] at hp
    have hc := cc1_ev hp hpl hql
    unfold wB at hp hc ⊢
    unfold wR at hq2 ⊢
    have hp2 := (List.getElem?_eq_some_iff.1 hp).2
    simp -implicitDefEqProofs [hc, hp2, hq2, hpl, hql, hne, Ne.symm hne, getB_old, setB_old, St.kp, updM, orB, ha]
  · rw [if_pos rfl] at hp
    have hc := cc0_ev hp hpl hql
    unfold wB at hp hc ⊢
    unfold wR at hq2 ⊢
    have hp2 := (List.getElem?_eq_some_iff.1 hp).2
    simp -implicitDefEqProofs [hc, hp2, hq2, hpl, hql, hne, Ne.symm hne, getB_old, setB_old, St.kp, updM, orB, ha]
theorem WS0_ev {H : List Blk} {fr : Bool} {p q g : Nat} {s : Bs} (w : Wr H fr p q g s) :
    EvF tab 54 [.ptr p 0, T []] H = some ⟨.tup [I 0, .g .nif], [(p, wB (.ptr p 0) q g s)], []⟩ := by
  obtain ⟨hpl, hql, hne⟩ := w.lt
  have hq2 := (List.getElem?_eq_some_iff.1 w.hq).2
  have ha := fun (st : St) => appTV_none (e := 5) (h := H) (st := st) (q := q) (g := g) (s := s)
  refine EvF_walk t54 (by simp) ?_
  have hp := w.hp
  have hb : bytesG [] = [] := rfl
  cases fr
  · rw [if_neg (by simp)] at hp
    have hc := cc1_ev hp hpl hql
    unfold wB at hp hc ⊢
    unfold wR at hq2
    have hp2 := (List.getElem?_eq_some_iff.1 hp).2
    simp -implicitDefEqProofs [hc, hp2, hq2, hpl, hql, hne, Ne.symm hne, getB_old, setB_old, St.kp, updM, orB, ha, hb]
  · rw [if_pos rfl] at hp
    have hc := cc0_ev hp hpl hql
    unfold wB at hp hc ⊢
    unfold wR at hq2
    have hp2 := (List.getElem?_eq_some_iff.1 hp).2
    simp -implicitDefEqProofs [hc, hp2, hq2, hpl, hql, hne, Ne.symm hne, getB_old, setB_old, St.kp, updM, orB, ha, hb]
/-- What a writer holds, as a text. -/
theorem String_ev {H : List Blk} {fr : Bool} {p q g : Nat} {s : Bs} (w : Wr H fr p q g s) (hs : s ≠ []) (hl : s.length ≤ 140737488355328) (hg : 1 < g) :
    EvF tab 29 [.ptr p 0] H = some ⟨T s, [(q, .fro 1 g (bytesG s))], []⟩ := by
  obtain ⟨hpl, hql, hne⟩ := w.lt
  have hq2 := (List.getElem?_eq_some_iff.1 w.hq).2
  have hp := w.hp
  refine EvF_walk t29 (by simp) ?_
  unfold wB at hp
  unfold wR at hq2
  have hp2 := (List.getElem?_eq_some_iff.1 hp).2
  have h0 : 0 < s.length := List.length_pos_iff.2 hs
  have h1 : (bytesG s).length = s.length := bytesG_len s
  have h2 : List.take s.length (bytesG s) = bytesG s := List.take_of_length_le (Nat.le_of_eq h1)
  have h3 : evI.bytesOfG (bytesG s) = some s := bytesOf_bytesG s
  have h4 : isLiveB H p = true := by unfold isLiveB; rw [hp]; rfl
  have h5 : (s.length : Int) ≤ 9223372036854775807 := by omega
  simp -implicitDefEqProofs [Blk.lt1, h4, h5, hp2, hq2, hpl, hql, hne, Ne.symm hne, getB_old, setB_old, St.kp, updM, orB, h0, h1, h2, h3, show ¬ g = 1 by omega, show s.length ≤ 9223372036854775807 by omega]
end Go.Proofs.YtenndgooepdmiaaGreatDoor
end
