/- Stores that may be: what the program and the reference say. -/
import Derived.Test.YtibnbcljmfigfaaSMvcc1
namespace Go.Proofs.Ytibnbcljmfigfaa
open Go Go.AM Go.Proofs
set_option maxRecDepth 20000
set_option maxHeartbeats 2000000
set_option linter.unusedSimpArgs false
set_option linter.unusedVariables false
def okE (srev : Int) (l : List KV) (last : Int) (e : Ev) : Bool := (!(decide (e.rev < last) || decide (srev < e.rev)) && rightP l e) && decide ((stepP e.rev l e).length ≤ 30)
def logOk (srev : Int) : List KV → Int → List Ev → Bool
  | _, _, [] => true
  | l, last, e :: log => okE srev l last e && logOk srev (stepP e.rev l e) e.rev log
def headOk (s : Store) : Bool := !(decide (s.low < 0) || (decide (s.rev < s.low) || (decide (1099511627774 < s.rev) || (decide (30 < s.base.l.length) || (decide (60 < s.log.l.length) || !mayL s.base.l)))))
def baseOk (s : Store) : Bool := !(s.base.l.any fun x => decide (s.low < x.mod))
def storeOk (s : Store) : Bool := headOk s && (baseOk s && logOk s.rev s.base.l (s.low + 1) s.log.l)
theorem runG_log (srev : Int) (R : Sl KV → Ev → Sl KV) (hR : ∀ b e, (R b e).l = stepP e.rev b.l e) : ∀ (log : List Ev) k (b : Sl KV × Int),
    (∃ c, runG (fun _ (e : Ev) (b : Sl KV × Int) => (if okE srev b.1.l b.2 e = true then .inl (R b.1 e, e.rev) else .inr 0 : (Sl KV × Int) ⊕ Nat)) k log b = .inl c ∧ logOk srev b.1.l b.2 log = true) ∨
    (runG (fun _ (e : Ev) (b : Sl KV × Int) => (if okE srev b.1.l b.2 e = true then .inl (R b.1 e, e.rev) else .inr 0 : (Sl KV × Int) ⊕ Nat)) k log b = .inr 0 ∧ logOk srev b.1.l b.2 log = false) := by
  intro log
  induction log with
  | nil => intro k b; exact .inl ⟨b, rfl, rfl⟩
  | cons e log ih =>
    intro k b
    cases h : okE srev b.1.l b.2 e
    · right; simp only [runG, logOk, h, Bool.false_eq_true, if_false, Bool.false_and, and_self]
    · simp only [runG, logOk, h, if_true, Bool.true_and]
      have := ih (k + 1) (R b.1 e, e.rev)
      simp only [hR] at this
      exact this
theorem mem_layP {x y : KV} : ∀ {l : List KV}, y ∈ layP l x → y ∈ l ∨ y = x
  | [], h => by simp [layP] at h; exact .inr h
  | z :: l, h => by
    unfold layP at h
    split at h
    · rcases List.mem_cons.1 h with h | h
      · exact .inl (by simp [h])
      · rcases mem_layP h with h | h
        · exact .inl (by simp [h])
        · exact .inr h
    · split at h
      · rcases List.mem_cons.1 h with h | h
        · exact .inr h
        · exact .inl (by simp [h])
      · rcases List.mem_cons.1 h with h | h
        · exact .inr h
        · exact .inl h
theorem mem_takeP {k : Bs} {y : KV} : ∀ {l : List KV}, y ∈ takeP l k → y ∈ l
  | [], h => by simp [takeP] at h
  | z :: l, h => by
    unfold takeP at h
    split at h
    · exact List.mem_cons_of_mem _ h
    · rcases List.mem_cons.1 h with h | h
      · simp [h]
      · exact List.mem_cons_of_mem _ (mem_takeP h)
theorem mem_stepP {rev : Int} {l : List KV} {e : Ev} {y : KV} (h : y ∈ stepP rev l e) : y ∈ l ∨ y = e.kv := by
  unfold stepP at h
  split at h
  · exact .inl h
  · split at h
    · exact .inl (mem_takeP h)
    · exact mem_layP h
theorem findX_wf {l : List KV} (h : ∀ x ∈ l, x.wf) (k : Bs) : (findX l k).wf := by
  unfold findX
  rcases hq : findN k 0 l with _ | i
  · exact ⟨by simp [kv0, S64], by simp [kv0, S64], ⟨by simp [kv0], by simp [kv0]⟩, ⟨by simp [kv0], by simp [kv0]⟩, ⟨by simp [kv0], by simp [kv0]⟩, ⟨by simp [kv0], by simp [kv0]⟩⟩
  · obtain ⟨h1, _⟩ := find_some hq
    simp only [List.getElem?_eq_getElem h1, Option.getD_some]
    exact h _ (List.getElem_mem _)
theorem May2_loop0 (s : Store) (lb : s.base.l.length ≤ 9223372036854775807) (H : List Blk) :
    loopE (EvF tab) H L44_0 [1, 3] ⟨[(1, .ptr H.length 0), (3, I 0)], [], [.cells (s.c.map .g)]⟩ =
      some (if baseOk s = true then (.exit 0, ⟨[(1, .ptr H.length 0), (3, I s.base.l.length), (45, B false)], [], [.cells (s.c.map .g)]⟩) else (.ret, ⟨[(2, B false)], [], [.cells (s.c.map .g)]⟩)) := by
  have hb : baseOk s = allP (fun x : KV => !decide (s.low < x.mod)) s.base.l := by
    unfold baseOk allP
    induction s.base.l with
    | nil => rfl
    | cons x l ih => simp only [List.any_cons, List.all_cons, Bool.not_or, ih]
  rw [hb]
  refine loop_all0 (l := s.base.l) (fun x : KV => !decide (s.low < x.mod)) (fun k => ⟨[(1, .ptr H.length 0), (3, I k)], [], [.cells (s.c.map .g)]⟩) _ _ (by simp) (by simp) (fun k x hk hx hy => ?_) (by delta L44_0; simp -implicitDefEqProofs [Store.c])
  delta L44_0
  have e2 := wrap_succ hk lb
  obtain ⟨srev, slow, sbase, slog⟩ := s
  simp only at hk hx hy e2 ⊢
  cases sbase with
  | nil => simp at hk
  | of l =>
    simp only [Sl.l_of] at hk hy ⊢
    by_cases h : slow < x.mod
    · simp -implicitDefEqProofs [hk, hy, Store.c, KV.c, h]
    · simp -implicitDefEqProofs [hk, hy, Store.c, KV.c, h, e2]
theorem slice_one {α : Type} {l : List α} {k : Nat} {x : α} (h : l[k]? = some x) : List.drop k (List.take (k + 1) l) = [x] := by
  have hk : k < l.length := (List.getElem?_eq_some_iff.1 h).1
  have hx : l[k] = x := (List.getElem?_eq_some_iff.1 h).2
  rw [List.take_succ_eq_append_getElem hk, List.drop_append_of_le_length (by simp; omega), List.drop_eq_nil_of_le (by simp; omega), hx]; rfl
theorem May2_ev (s : Store) (w : s.wf) (H : List Blk) : EvF tab 44 [A s.c] H = some ⟨B (storeOk s), [], []⟩ := by
  obtain ⟨_, _, ⟨wb, lb⟩, wl, ll⟩ := w
  have m1 := fun H => May2L_ev s.base (fun x hx => (wb x hx).1) lb H
  have m2 := May2_loop0 s lb H
  have hq := loop_runJ (E := EvF tab) (h := H) (c := L44_1) (lv := [1, 4, 5, 6]) (l := s.log.l) (β := Sl KV × Int) (γ := Nat) (fun k b => (b.1.l.length ≤ 30 ∧ (∀ x ∈ b.1.l, x.wf)) ∧ s.log.l.length ≤ 60 ∧ s.low + 1 ≤ b.2 ∧ (k = 0 → b.2 = s.low + 1)) (fun _ e b => if okE s.rev b.1.l b.2 e = true then .inl (stepR2 e.rev b.1 e, e.rev) else .inr 0)
    (fun k b o => ⟨[(1, .ptr H.length 0), (4, .g (KVs.g b.1)), (5, I (if k = 0 then s.low else b.2)), (6, I k)], [], .cells (s.c.map .g) :: o⟩)
    (fun b o => (.exit 2, ⟨[(1, .ptr H.length 0), (4, .g (KVs.g b.1)), (5, I (if s.log.l.length = 0 then s.low else b.2)), (6, I s.log.l.length), (65, B false)], [], .cells (s.c.map .g) :: o⟩))
    (fun _ o => (.ret, ⟨[(2, B false)], [], .cells (s.c.map .g) :: o⟩)) (by simp) (by simp) (fun k e b o hk hx hy hi => ?_) (fun b o _ => by delta L44_1; simp -implicitDefEqProofs [Store.c])
  · refine EvF_walk t44 (by simp) ?_
    unfold storeOk headOk
    by_cases c1 : s.low < 0
    · simp -implicitDefEqProofs [A, Store.c, c1]
    by_cases c2 : s.rev < s.low
    · simp -implicitDefEqProofs [A, Store.c, c1, c2]
    by_cases c3 : 1099511627774 < s.rev
    · simp -implicitDefEqProofs [A, Store.c, c1, c2, c3]
    cases hm : mayL s.base.l
    · rw [hm] at m1
      by_cases c4 : 30 < s.base.l.length <;> by_cases c5 : 60 < s.log.l.length <;> simp -implicitDefEqProofs [A, Store.c, c1, c2, c3, c4, c5, m1]
    rw [hm] at m1
    by_cases c4 : 30 < s.base.l.length
    · simp -implicitDefEqProofs [A, Store.c, c1, c2, c3, m1, c4, show (30 : Int) < (s.base.l.length : Int) by omega]
    have c4' : ¬ (30 : Int) < (s.base.l.length : Int) := by omega
    by_cases c5 : 60 < s.log.l.length
    · simp -implicitDefEqProofs [A, Store.c, c1, c2, c3, m1, c4, c4', c5, show (60 : Int) < (s.log.l.length : Int) by omega]
    have c5' : ¬ (60 : Int) < (s.log.l.length : Int) := by omega
    obtain ⟨o', hq⟩ := hq (s.base, s.low + 1) [] ⟨⟨by simp only; omega, wb⟩, by omega, by simp only; omega, fun _ => rfl⟩
    generalize baseOk s = b2 at m2 ⊢
    simp only [Store.c, List.map_cons, List.map_nil] at m2 hq
    cases b2
    · simp only [Bool.false_eq_true, if_false] at m2
      simp -implicitDefEqProofs [A, Store.c, c1, c2, c3, c4, c4', c5, c5', m1, m2]
    · simp only [if_true] at m2
      rcases runG_log s.rev (fun b e => stepR2 e.rev b e) (fun b e => stepR2_l e.rev b e) s.log.l 0 (s.base, s.low + 1) with ⟨c, k1, k2⟩ | ⟨k1, k2⟩ <;> rw [k1] at hq <;> simp only [endJ, show ((0 : Nat) : Int) = 0 from rfl, if_true] at hq <;> simp only at k2 <;> simp -implicitDefEqProofs [A, Store.c, c1, c2, c3, c4, c4', c5, c5', m1, m2, hq, k2]
  · obtain ⟨⟨hi1, hw⟩, hi2, hi3, hi4⟩ := hi
    have e2 := wrap_succ hk ll
    have hmem : e ∈ s.log.l := List.mem_of_getElem? hx
    have hxw := findX_wf hw e.kv.key
    have h1 := fun H => right2_ev b.1 e (wl e hmem).2.1 hxw.2.2.2.2.1 (by omega) H
    have h2 := fun H => Fold2_ev b.1 (.of [e]) e.rev (by simp only [Sl.l_of, List.length_cons, List.length_nil]; omega) H
    have h3 : foldR2 b.1 (Sl.of [e]).l e.rev = stepR2 e.rev b.1 e := rfl
    rw [h3] at h2
    have h4 := stepR2_l e.rev b.1 e
    have hwk := (wl e hmem).2
    have hnw : ∀ x ∈ (stepR2 e.rev b.1 e).l, x.wf := fun x hx => by
      rw [h4] at hx
      rcases mem_stepP hx with h | h
      · exact hw x h
      · rw [h]; exact hwk
    delta L44_1
    obtain ⟨srev, slow, sbase, slog⟩ := s
    obtain ⟨bl, last⟩ := b
    simp only at hi1 hi2 hi3 hi4 hk hx hy e2 h1 h2 h4 ll hnw ⊢
    cases slog with
    | nil => simp at hk
    | of l =>
      simp only [Sl.l_of] at hk hx hy ll hi2 ⊢
      have hsl : List.drop k (List.take (k + 1) (List.map Ev.c l)) = [Ev.c e] := slice_one (by rw [List.getElem?_map, hx]; rfl)
      unfold okE
      rw [← h4]
      generalize rightP bl.l e = b1 at h1 ⊢
      generalize stepR2 e.rev bl e = R at h2 hnw ⊢
      obtain ⟨er, eg, ek⟩ := e
      obtain ⟨k1, k2, k3, k4, k5, k6⟩ := ek
      simp only [A, Ev.c, Evs.g, Sl.g_of, List.map_cons, List.map_nil] at h1 h2 hsl ⊢
      obtain ⟨q, hq⟩ : ∃ q, (if k = 0 then slow else last) = q := ⟨_, rfl⟩
      rw [hq]
      have hqd : (er ≤ slow ∨ er < q) ↔ er < last := by
        rw [← hq]
        by_cases h0 : k = 0
        · have := hi4 h0; rw [if_pos h0]; omega
        · rw [if_neg h0]; omega
      have i1 : (0 : Int) ≤ (k : Int) := by omega
      have i2 : (k : Int) + 1 ≤ (l.length : Int) := by omega
      have i3 : ((k : Int) + 1).toNat = k + 1 := by omega
      have i4 : (k : Int) ≤ (k : Int) + 1 := by omega
      have i5 : (0 : Int) ≤ (k : Int) + 1 := by omega
      have i6 : List.take l.length (List.map Ev.c l) = List.map Ev.c l := List.take_of_length_le (by simp)
      by_cases d1 : er < last
      · simp only [d1, decide_true, Bool.true_or, Bool.not_true, Bool.false_and, Bool.false_eq_true, if_false]
        refine ⟨o ++ [.cells [I er, B eg, T k1, T k2, I k3, I k4, I k5, I k6]], ?_⟩
        by_cases d0 : er ≤ slow
        · simp -implicitDefEqProofs [hk, hy, Store.c, Ev.c, d0]
        · have d00 : er < q := (hqd.2 d1).resolve_left d0
          simp -implicitDefEqProofs [hk, hy, Store.c, Ev.c, d0, d00]
      · have d0 : ¬ er ≤ slow := fun h => d1 (hqd.1 (.inl h))
        have d00 : ¬ er < q := fun h => d1 (hqd.1 (.inr h))
        by_cases d2 : srev < er
        · simp only [d1, d2, decide_true, decide_false, Bool.false_or, Bool.not_true, Bool.false_and, Bool.false_eq_true, if_false]
          refine ⟨o ++ [.cells [I er, B eg, T k1, T k2, I k3, I k4, I k5, I k6]], ?_⟩
          simp -implicitDefEqProofs [hk, hy, Store.c, Ev.c, d0, d00, d2]
        · cases b1
          · simp only [d1, d2, decide_false, Bool.false_or, Bool.not_false, Bool.true_and, Bool.false_and, Bool.false_eq_true, if_false]
            refine ⟨o ++ [.cells [I er, B eg, T k1, T k2, I k3, I k4, I k5, I k6]], ?_⟩
            simp -implicitDefEqProofs [hk, hy, Store.c, Ev.c, d0, d00, d2, h1]
          · by_cases d3 : R.l.length ≤ 30
            · simp only [d1, d2, d3, decide_false, decide_true, Bool.false_or, Bool.not_false, Bool.true_and, if_true]
              refine ⟨⟨⟨trivial, hnw⟩, hi2, by omega, fun h => by omega⟩, o ++ [.cells [I er, B eg, T k1, T k2, I k3, I k4, I k5, I k6]], ?_⟩
              simp -implicitDefEqProofs [hk, hy, Store.c, Ev.c, d0, d00, d2, h1, h2, d3, hsl, cutB, bnd, intOfA, i1, i2, i3, i4, i5, i6, e2, show k + 1 ≤ l.length by omega, show ¬ (30 : Int) < (R.l.length : Int) by omega]
            · simp only [d1, d2, d3, decide_false, Bool.false_or, Bool.not_false, Bool.true_and, Bool.false_eq_true, if_false]
              refine ⟨o ++ [.cells [I er, B eg, T k1, T k2, I k3, I k4, I k5, I k6]], ?_⟩
              simp -implicitDefEqProofs [hk, hy, Store.c, Ev.c, d0, d00, d2, h1, h2, d3, hsl, cutB, bnd, intOfA, i1, i2, i3, i4, i5, i6, e2, show k + 1 ≤ l.length by omega, show (30 : Int) < (R.l.length : Int) by omega]
end Go.Proofs.Ytibnbcljmfigfaa
