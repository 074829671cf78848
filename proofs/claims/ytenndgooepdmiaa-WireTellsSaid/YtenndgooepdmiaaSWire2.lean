/- What the writer's methods do: numbers, texts, bools, deeds, keys. -/
import Derived.Test.YtenndgooepdmiaaSWire1
namespace Go.Proofs.Ytenndgooepdmiaa
open Go Go.AM Go.Proofs
set_option maxRecDepth 4000
set_option linter.unusedSimpArgs false
set_option linter.unusedVariables false
def encN (n : Int) : Bs := varB n.toNat
def encL (l : List Int) : Bs := (l.map encN).flatten
theorem encN_ne (n : Int) : encN n ≠ [] := by unfold encN varB; simp
theorem encL_take {l : List Int} {k : Nat} (h : k < l.length) : encL (l.take (k + 1)) = encL (l.take k) ++ encN l[k] := by
  unfold encL; rw [List.take_succ_eq_append_getElem h, List.map_append, List.flatten_append]; simp
theorem encL_take_le (l : List Int) (k : Nat) : (encL (l.take k)).length ≤ (encL l).length := by
  have : encL l = encL (l.take k) ++ encL (l.drop k) := by unfold encL; rw [← List.flatten_append, ← List.map_append, List.take_append_drop]
  rw [this]; simp
theorem Wr.set1 {H : List Blk} {fr : Bool} {p q g : Nat} {s : Bs} (w : Wr H fr p q g s) (g' : Nat) (s' : Bs) : Wr ((H.set p (wB (.ptr p 0) q g' s')).set q (wR g' s')) false p q g' s' := by
  obtain ⟨h1, h2, h3⟩ := w.lt
  exact ⟨by rw [List.getElem?_set_ne (Ne.symm h3), List.getElem?_set_self h1]; rfl, by rw [List.getElem?_set_self (by simpa using h2)]⟩
theorem Wr.set2 {H : List Blk} {fr : Bool} {p q g : Nat} {s : Bs} (w : Wr H fr p q g s) (g' : Nat) (s' : Bs) : Wr ((H.set q (wR g' s')).set p (wB (.ptr p 0) q g' s')) false p q g' s' := by
  obtain ⟨h1, h2, h3⟩ := w.lt
  exact ⟨by rw [List.getElem?_set_self (by simpa using h1)]; rfl, by rw [List.getElem?_set_ne h3, List.getElem?_set_self h2]⟩
@[simp] theorem wB_lt1 {n p q g : Nat} {s : Bs} : (wB (.ptr p 0) q g s).lt1 n = (decide (p < n) && decide (q < n)) := by simp [wB, Blk.lt1, AV.lt1, AV.lt0]
@[simp] theorem wR_lt1 {n g : Nat} {s : Bs} : (wR g s).lt1 n = true := by simp [wR, Blk.lt1]
def ints (l : List Int) : GV := .sl 1 (l.map fun x => [.int .i64 x])
theorem n_step {H : List Blk} {fr : Bool} {p q g : Nat} {s : Bs} (w : Wr H fr p q g s) (l : List Int) (hn : ∀ x ∈ l, 0 ≤ x ∧ x ≤ 9223372036854775807) (hl : l.length ≤ 9223372036854775807) (hr : s.length + (encL l).length ≤ 140737488355328) (k : Nat) (hk : k < l.length) :
    kpN [0, 6, 7, 8] (evCode (EvF tab) H L27_0 ⟨[(0, .ptr p 0), (6, .g (ints l)), (7, I l.length), (8, I k)], if k = 0 then [] else mPQ (!fr) p q (g + k) (s ++ encL (l.take k)), []⟩) =
      some (.normal, ⟨[(0, .ptr p 0), (6, .g (ints l)), (7, I l.length), (8, I (k + 1 : Nat))], mPQ (!fr) p q (g + (k + 1)) (s ++ encL (l.take (k + 1))), []⟩) := by
  obtain ⟨hpl, hql, hne⟩ := w.lt
  have hx := hn l[k] (List.getElem_mem hk)
  obtain ⟨x, ex⟩ : ∃ x, l[k] = x := ⟨_, rfl⟩
  obtain ⟨n, en⟩ : ∃ n : Nat, x = n := ⟨x.toNat, by omega⟩
  have hv := Var_ev n (by omega)
  have hen : encN x = varB n := by unfold encN; rw [en]; rfl
  have hwr : IntKind.u64.wrap (n : Int) = (n : Int) := wrap_u64 (by omega) (by omega)
  have hsz := encL_take_le l (k + 1)
  rw [encL_take hk, ex, hen, List.length_append] at hsz
  rw [encL_take hk, ex, hen, ← List.append_assoc]
  have hnv : varB n ≠ [] := by unfold varB; simp
  obtain ⟨v, ev⟩ : ∃ v, varB n = v := ⟨_, rfl⟩
  rw [ev] at hv hsz hnv ⊢
  have hel : (l.map fun x => [GV.int .i64 x])[k]? = some [.int .i64 (n : Int)] := by simp [hk, ex, en]
  have hkl : (k : Int) < l.length := by omega
  have hmx : IntKind.i64.wrap ((k : Int) + 1) = (k : Int) + 1 := wrap_succ hk hl
  delta L27_0
  unfold ints
  by_cases h0 : k = 0
  · subst h0
    have e0 : encL (l.take 0) = [] := rfl
    rw [e0, List.length_nil, Nat.zero_add] at hsz
    have hs := WS_ev w v hnv (by omega)
    have e1 : IntKind.i64.wrap 1 = 1 := rfl
    rw [e0, List.append_nil]
    cases fr <;> simp -implicitDefEqProofs [mPQ, hk, e1, hel, hkl, hwr, hv, hs, hpl, hql, hne, Ne.symm hne, setB_old, updM, ex, en]
  · rw [if_neg h0]
    obtain ⟨s1, es1⟩ : ∃ s1, s ++ encL (l.take k) = s1 := ⟨_, rfl⟩
    have hlen : s1.length + v.length ≤ 140737488355328 := by rw [← es1]; simp; omega
    rw [es1]
    have hs1 := WS_ev (w.set1 (g + k) s1) v hnv hlen
    have hs2 := WS_ev (w.set2 (g + k) s1) v hnv hlen
    cases fr <;> simp -implicitDefEqProofs [mPQ, hel, hkl, hwr, hv, hs1, hs2, hpl, hql, hne, Ne.symm hne, setB_old, updM, ex, en, hmx, Nat.add_assoc]
theorem n_ev {H : List Blk} {fr : Bool} {p q g : Nat} {s : Bs} (w : Wr H fr p q g s) (l : List Int) (h0 : l ≠ []) (hn : ∀ x ∈ l, 0 ≤ x ∧ x ≤ 9223372036854775807) (hl : l.length ≤ 9223372036854775807) (hr : s.length + (encL l).length ≤ 140737488355328) :
    EvF tab 27 [.ptr p 0, .g (ints l)] H = some ⟨.tup [], mPQ (!fr) p q (g + l.length) (s ++ encL l), []⟩ := by
  obtain ⟨hpl, hql, hne⟩ := w.lt
  have hw := loop_cnt (E := EvF tab) (h := H) (c := L27_0) (lv := [0, 6, 7, 8]) l.length (fun k => ⟨[(0, .ptr p 0), (6, .g (ints l)), (7, I l.length), (8, I k)], if k = 0 then [] else mPQ (!fr) p q (g + k) (s ++ encL (l.take k)), []⟩)
    (.exit 0, ⟨[(0, .ptr p 0), (6, .g (ints l)), (7, I l.length), (8, I l.length), (9, B false)], mPQ (!fr) p q (g + l.length) (s ++ encL l), []⟩) (by simp) (fun k hk => by rw [n_step w l hn hl hr k hk]; simp) (by
      have h1 : ¬ l.length = 0 := fun e => h0 (List.eq_nil_of_length_eq_zero e)
      simp only [if_neg h1, List.take_length]
      delta L27_0
      simp -implicitDefEqProofs)
  simp only [if_true] at hw
  have e0 : ((0 : Nat) : Int) = 0 := rfl
  rw [e0] at hw
  refine EvF_walk t27 (by simp) ?_
  have hlen : ∀ h st, lenV h st (.g (ints l)) = some l.length := fun h st => by simp [ints, lenV]
  have hlt : ((mPQ (!fr) p q (g + l.length) (s ++ encL l)).all fun x => x.2.lt1 H.length) = true := by cases fr <;> simp [mPQ, hpl, hql]
  simp -implicitDefEqProofs [hlen, hw, -List.all_eq_true, hlt]
def encS (s : Bs) : Bs := encN s.length ++ s
def encT (l : List Bs) : Bs := (l.map encS).flatten
def gT (l : List Bs) : Nat := (l.map fun s => if s = [] then 1 else 2).sum
theorem encT_take {l : List Bs} {k : Nat} (h : k < l.length) : encT (l.take (k + 1)) = encT (l.take k) ++ encS l[k] := by
  unfold encT; rw [List.take_succ_eq_append_getElem h, List.map_append, List.flatten_append]; simp
theorem gT_take {l : List Bs} {k : Nat} (h : k < l.length) : gT (l.take (k + 1)) = gT (l.take k) + if l[k] = [] then 1 else 2 := by
  unfold gT; rw [List.take_succ_eq_append_getElem h, List.map_append, List.sum_append]; simp
theorem encT_take_le (l : List Bs) (k : Nat) : (encT (l.take k)).length ≤ (encT l).length := by
  have : encT l = encT (l.take k) ++ encT (l.drop k) := by unfold encT; rw [← List.flatten_append, ← List.map_append, List.take_append_drop]
  rw [this]; simp
theorem encL1 (x : Int) : encL [x] = encN x := by simp [encL]
def txts (l : List Bs) : GV := .sl 1 (l.map fun x => [.str x])
theorem t_step {H : List Blk} {fr : Bool} {p q g : Nat} {s : Bs} (w : Wr H fr p q g s) (l : List Bs) (hl : l.length ≤ 9223372036854775807) (hr : s.length + (encT l).length ≤ 140737488355328) (k : Nat) (hk : k < l.length) :
    kpN [0, 6, 7, 8] (evCode (EvF tab) H L29_0 ⟨[(0, .ptr p 0), (6, .g (txts l)), (7, I l.length), (8, I k)], if k = 0 then [] else mPQ fr p q (g + gT (l.take k)) (s ++ encT (l.take k)), []⟩) =
      some (.normal, ⟨[(0, .ptr p 0), (6, .g (txts l)), (7, I l.length), (8, I (k + 1 : Nat))], mPQ fr p q (g + gT (l.take (k + 1))) (s ++ encT (l.take (k + 1))), []⟩) := by
  obtain ⟨hpl, hql, hne⟩ := w.lt
  obtain ⟨x, ex⟩ : ∃ x, l[k] = x := ⟨_, rfl⟩
  have hsz := encT_take_le l (k + 1)
  rw [encT_take hk, ex, List.length_append] at hsz
  rw [encT_take hk, ex, ← List.append_assoc, gT_take hk, ex]
  unfold encS at hsz ⊢
  rw [List.length_append] at hsz
  have hel : (l.map fun x => [GV.str x])[k]? = some [.str x] := by simp [hk, ex]
  have hkl : (k : Int) < l.length := by omega
  have hmx : IntKind.i64.wrap ((k : Int) + 1) = (k : Int) + 1 := wrap_succ hk hl
  obtain ⟨v, ev⟩ : ∃ v, encN (x.length : Int) = v := ⟨_, rfl⟩
  have hx : ∀ y ∈ [(x.length : Int)], 0 ≤ y ∧ y ≤ 9223372036854775807 := fun y hy => by
    rw [List.mem_singleton.1 hy]; omega
  rw [ev] at hsz ⊢
  delta L29_0
  unfold txts
  by_cases h0 : k = 0
  · subst h0
    have e0 : encT (l.take 0) = [] := rfl
    have e2 : gT (l.take 0) = 0 := rfl
    rw [e0, List.length_nil, Nat.zero_add] at hsz
    have hn := n_ev w [(x.length : Int)] (by simp) hx (by simp) (by rw [encL1, ev]; omega)
    rw [encL1, ev] at hn
    simp only [ints, List.map_cons, List.map_nil, List.length_cons, List.length_nil, Nat.zero_add] at hn
    have e1 : IntKind.i64.wrap 1 = 1 := rfl
    rw [e0, e2, List.append_nil, Nat.zero_add]
    by_cases hx0 : x = []
    · subst hx0
      have e9 : ((([] : Bs).length : Nat) : Int) = 0 := rfl
      rw [e9] at hn
      have hs1 := WS0_ev (w.set1 (g + 1) (s ++ v))
      have hs2 := WS0_ev (w.set2 (g + 1) (s ++ v))
      cases fr <;> simp -implicitDefEqProofs [mPQ, hk, e1, hel, hkl, hn, hs1, hs2, hpl, hql, hne, Ne.symm hne, setB_old, updM, ex, chunk]
    · have hs1 := WS_ev (w.set1 (g + 1) (s ++ v)) x hx0 (by simp; omega)
      have hs2 := WS_ev (w.set2 (g + 1) (s ++ v)) x hx0 (by simp; omega)
      cases fr <;> simp -implicitDefEqProofs [mPQ, hk, e1, hel, hkl, hn, hs1, hs2, hpl, hql, hne, Ne.symm hne, setB_old, updM, ex, chunk, hx0]
  · rw [if_neg h0]
    obtain ⟨s1, es1⟩ : ∃ s1, s ++ encT (l.take k) = s1 := ⟨_, rfl⟩
    obtain ⟨g1, eg1⟩ : ∃ g1, g + gT (l.take k) = g1 := ⟨_, rfl⟩
    have hlen : s1.length + v.length + x.length ≤ 140737488355328 := by rw [← es1]; simp; omega
    rw [es1, ← Nat.add_assoc, eg1]
    have hn1 := n_ev (w.set1 g1 s1) [(x.length : Int)] (by simp) hx (by simp) (by rw [encL1, ev]; omega)
    have hn2 := n_ev (w.set2 g1 s1) [(x.length : Int)] (by simp) hx (by simp) (by rw [encL1, ev]; omega)
    rw [encL1, ev] at hn1 hn2
    simp only [ints, List.map_cons, List.map_nil, List.length_cons, List.length_nil, Nat.zero_add] at hn1 hn2
    by_cases hx0 : x = []
    · subst hx0
      have e9 : ((([] : Bs).length : Nat) : Int) = 0 := rfl
      rw [e9] at hn1 hn2
      have hs1 := WS0_ev (w.set1 (g1 + 1) (s1 ++ v))
      have hs2 := WS0_ev (w.set2 (g1 + 1) (s1 ++ v))
      cases fr <;> simp -implicitDefEqProofs [mPQ, hel, hkl, hn1, hn2, hs1, hs2, hpl, hql, hne, Ne.symm hne, setB_old, updM, ex, hmx, chunk]
    · have hs1 := WS_ev (w.set1 (g1 + 1) (s1 ++ v)) x hx0 (by simp; omega)
      have hs2 := WS_ev (w.set2 (g1 + 1) (s1 ++ v)) x hx0 (by simp; omega)
      cases fr <;> simp -implicitDefEqProofs [mPQ, hel, hkl, hn1, hn2, hs1, hs2, hpl, hql, hne, Ne.symm hne, setB_old, updM, ex, hmx, chunk, hx0, Nat.add_assoc]
theorem t_ev {H : List Blk} {fr : Bool} {p q g : Nat} {s : Bs} (w : Wr H fr p q g s) (l : List Bs) (h0 : l ≠ []) (hl : l.length ≤ 9223372036854775807) (hr : s.length + (encT l).length ≤ 140737488355328) :
    EvF tab 29 [.ptr p 0, .g (txts l)] H = some ⟨.tup [], mPQ fr p q (g + gT l) (s ++ encT l), []⟩ := by
  obtain ⟨hpl, hql, hne⟩ := w.lt
  have hw := loop_cnt (E := EvF tab) (h := H) (c := L29_0) (lv := [0, 6, 7, 8]) l.length (fun k => ⟨[(0, .ptr p 0), (6, .g (txts l)), (7, I l.length), (8, I k)], if k = 0 then [] else mPQ fr p q (g + gT (l.take k)) (s ++ encT (l.take k)), []⟩)
    (.exit 0, ⟨[(0, .ptr p 0), (6, .g (txts l)), (7, I l.length), (8, I l.length), (9, B false)], mPQ fr p q (g + gT l) (s ++ encT l), []⟩) (by simp) (fun k hk => by rw [t_step w l hl hr k hk]; simp) (by
      have h1 : ¬ l.length = 0 := fun e => h0 (List.eq_nil_of_length_eq_zero e)
      simp only [if_neg h1, List.take_length]
      delta L29_0
      simp -implicitDefEqProofs)
  simp only [if_true] at hw
  have e0 : ((0 : Nat) : Int) = 0 := rfl
  rw [e0] at hw
  refine EvF_walk t29 (by simp) ?_
  have hlen : ∀ h st, lenV h st (.g (txts l)) = some l.length := fun h st => by simp [txts, lenV]
  have hlt : ((mPQ fr p q (g + gT l) (s ++ encT l)).all fun x => x.2.lt1 H.length) = true := by cases fr <;> simp [mPQ, hpl, hql]
  simp -implicitDefEqProofs [hlen, hw, -List.all_eq_true, hlt]
def encB (b : Bool) : Bs := if b = true then [1] else [0]
theorem encN1 : encN 1 = [1] := by unfold encN varB; rw [varI, varL]; rfl
theorem encN0 : encN 0 = [0] := by unfold encN varB; rw [varI, varL]; rfl
theorem b_ev {H : List Blk} {fr : Bool} {p q g : Nat} {s : Bs} (w : Wr H fr p q g s) (b : Bool) (hr : s.length + 1 ≤ 140737488355328) :
    EvF tab 28 [.ptr p 0, B b] H = some ⟨.tup [], mPQ fr p q (g + 1) (s ++ encB b), []⟩ := by
  obtain ⟨hpl, hql, hne⟩ := w.lt
  refine EvF_walk t28 (by simp) ?_
  have h1 := n_ev w [1] (by simp) (by simp) (by simp) (by rw [encL1, encN1]; simpa using hr)
  have h2 := n_ev w [0] (by simp) (by simp) (by simp) (by rw [encL1, encN0]; simpa using hr)
  rw [encL1, encN1] at h1
  rw [encL1, encN0] at h2
  simp only [ints, List.map_cons, List.map_nil, List.length_cons, List.length_nil, Nat.zero_add] at h1 h2
  cases fr <;> cases b <;> simp -implicitDefEqProofs [mPQ, h1, h2, hpl, hql, hne, Ne.symm hne, setB_old, updM, chunk, encB]
end Go.Proofs.Ytenndgooepdmiaa
