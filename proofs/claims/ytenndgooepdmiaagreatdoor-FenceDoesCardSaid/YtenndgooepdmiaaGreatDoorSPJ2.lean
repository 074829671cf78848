/- Part of the proof: what the functions answer, part 2 (SWire2, SWire3, SWire4, SWire5, SWire6, SWire7, SVarR). No conditions. -/
import Derived.Test.YtenndgooepdmiaaGreatDoorSPJ1
section
namespace Go.Proofs.YtenndgooepdmiaaGreatDoor
open Go Go.AM Go.Proofs
set_option maxRecDepth 4000
set_option linter.unusedSimpArgs false
set_option linter.unusedVariables false
def encN (n : Int) : Bs := varB n.toNat
def encL (l : List Int) : Bs := (l.map encN).flatten
theorem encN_ne (n : Int) : encN n ≠ [] := by unfold encN varB; simp
theorem encL_take {l : List Int} {k : Nat} (h : k < l.length) : encL (l.take (k + 1)) = encL (l.take k) ++ encN l[k] := by
  unfold encL; rw [List.take_succ_eq_append_getElem h, List.map_append, List.flatten_append]; simp
theorem encL_take_le (l : List Int) (k : Nat) : (encL (l.take k)).length ≤ (encL l).length := by
  have : encL l = encL (l.take k) ++ encL (l.drop k) := by unfold encL; rw [← List.flatten_append, ← List.map_append, List.take_append_drop]
  rw [this]; simp
theorem Wr.set1 {H : List Blk} {fr : Bool} {p q g : Nat} {s : Bs} (w : Wr H fr p q g s) (g' : Nat) (s' : Bs) : Wr ((H.set p (wB (.ptr p 0) q g' s')).set q (wR g' s')) false p q g' s' := by
  obtain ⟨h1, h2, h3⟩ := w.lt
  exact ⟨by rw [List.getElem?_set_ne (Ne.symm h3), List.getElem?_set_self h1]; rfl, by rw [List.getElem?_set_self (by simpa using h2)]⟩
theorem Wr.set2 {H : List Blk} {fr : Bool} {p q g : Nat} {s : Bs} (w : Wr H fr p q g s) (g' : Nat) (s' : Bs) : Wr ((H.set q (wR g' s')).set p (wB (.ptr p 0) q g' s')) false p q g' s' := by
  obtain ⟨h1, h2, h3⟩ := w.lt
  exact ⟨by rw [List.getElem?_set_self (by simpa using h1)]; rfl, by rw [List.getElem?_set_ne h3, List.getElem?_set_self h2]⟩
@[simp] theorem wB_lt1 {n p q g : Nat} {s : Bs} : (wB (.ptr p 0) q g s).lt1 n = (decide (p < n) && decide (q < n)) := by simp [wB, Blk.lt1, AV.lt1, AV.lt0]
@[simp] theorem wR_lt1 {n g : Nat} {s : Bs} : (wR g s).lt1 n = true := by simp [wR, Blk.lt1]
def ints (l : List Int) : GV := .sl 1 (l.map fun x => [.int .i64 x])
theorem n_step {H : List Blk} {fr : Bool} {p q g : Nat} {s : Bs} (w : Wr H fr p q g s) (l : List Int) (hn : ∀ x ∈ l, 0 ≤ x ∧ x ≤ 9223372036854775807) (hl : l.length ≤ 9223372036854775807) (hr : s.length + (encL l).length ≤ 140737488355328) (k : Nat) (hk : k < l.length) :
    kpN [0, 6, 7, 8] (evCode (EvF tab) H L25_0 ⟨[(0, .ptr p 0), (6, .g (ints l)), (7, I l.length), (8, I k)], if k = 0 then [] else mPQ (!fr) p q (g + k) (s ++ encL (l.take k)), []⟩) =
      some (.normal, ⟨[(0, .ptr p 0), (6, .g (ints l)), (7, I l.length), (8, I (k + 1 : Nat))], mPQ (!fr) p q (g + (k + 1)) (s ++ encL (l.take (k + 1))), []⟩) := by
  obtain ⟨hpl, hql, hne⟩ := w.lt
  have hx := hn l[k] (List.getElem_mem hk)
  obtain ⟨x, ex⟩ : ∃ x, l[k] = x := ⟨_, rfl⟩
  obtain ⟨n, en⟩ : ∃ n : Nat, x = n := ⟨x.toNat, by omega⟩
  have hv := Var_ev n (by omega)
  have hen : encN x = varB n := by unfold encN; rw [en]; rfl
  have hwr : IntKind.u64.wrap (n : Int) = (n : Int) := wrap_u64 (by omega) (by omega)
  have hsz := encL_take_le l (k + 1)
  rw [encL_take hk, ex, hen, List.length_append] at hsz
  rw [encL_take hk, ex, hen, ← List.append_assoc]
  have hnv : varB n ≠ [] := by unfold varB; simp
  obtain ⟨v, ev⟩ : ∃ v, varB n = v := ⟨_, rfl⟩
  rw [ev] at hv hsz hnv ⊢
  have hel : (l.map fun x => [GV.int .i64 x])[k]? = some [.int .i64 (n : Int)] := by simp [hk, ex, en]
  have hkl : (k : Int) < l.length := by omega
  have hmx : IntKind.i64.wrap ((k : Int) + 1) = (k : Int) + 1 := wrap_succ hk hl
  delta L25_0
  unfold ints
  by_cases h0 : k = 0
  · subst h0
    have e0 : encL (l.take 0) = [] := rfl
    rw [e0, List.length_nil, Nat.zero_add] at hsz
    have hs := WS_ev w v hnv (by omega)
    have e1 : IntKind.i64.wrap 1 = 1 := rfl
    rw [e0, List.append_nil]
    cases fr <;> simp -implicitDefEqProofs [mPQ, hk, e1, hel, hkl, hwr, hv, hs, hpl, hql, hne, Ne.symm hne, setB_old, updM, ex, en]
  · rw [if_neg h0]
    obtain ⟨s1, es1⟩ : ∃ s1, s ++ encL (l.take k) = s1 := ⟨_, rfl⟩
    have hlen : s1.length + v.length ≤ 140737488355328 := by rw [← es1]; simp; omega
    rw [es1]
    have hs1 := WS_ev (w.set1 (g + k) s1) v hnv hlen
    have hs2 := WS_ev (w.set2 (g + k) s1) v hnv hlen
    cases fr <;> simp -implicitDefEqProofs [mPQ, hel, hkl, hwr, hv, hs1, hs2, hpl, hql, hne, Ne.symm hne, setB_old, updM, ex, en, hmx, Nat.add_assoc]
theorem n_ev {H : List Blk} {fr : Bool} {p q g : Nat} {s : Bs} (w : Wr H fr p q g s) (l : List Int) (h0 : l ≠ []) (hn : ∀ x ∈ l, 0 ≤ x ∧ x ≤ 9223372036854775807) (hl : l.length ≤ 9223372036854775807) (hr : s.length + (encL l).length ≤ 140737488355328) :
    EvF tab 25 [.ptr p 0, .g (ints l)] H = some ⟨.tup [], mPQ (!fr) p q (g + l.length) (s ++ encL l), []⟩ := by
  obtain ⟨hpl, hql, hne⟩ := w.lt
  have hw := loop_cnt (E := EvF tab) (h := H) (c := L25_0) (lv := [0, 6, 7, 8]) l.length (fun k => ⟨[(0, .ptr p 0), (6, .g (ints l)), (7, I l.length), (8, I k)], if k = 0 then [] else mPQ (!fr) p q (g + k) (s ++ encL (l.take k)), []⟩)
    (.exit 0, ⟨[(0, .ptr p 0), (6, .g (ints l)), (7, I l.length), (8, I l.length), (9, B false)], mPQ (!fr) p q (g + l.length) (s ++ encL l), []⟩) (by simp) (fun k hk => by rw [n_step w l hn hl hr k hk]; simp) (by
      have h1 : ¬ l.length = 0 := fun e => h0 (List.eq_nil_of_length_eq_zero e)
      simp only [if_neg h1, List.take_length]
      delta L25_0
      simp -implicitDefEqProofs)
  simp only [if_true] at hw
  have e0 : ((0 : Nat) : Int) = 0 := rfl
  rw [e0] at hw
  refine EvF_walk t25 (by simp) ?_
  have hlen : ∀ h st, lenV h st (.g (ints l)) = some l.length := fun h st => by simp [ints, lenV]
  have hlt : ((mPQ (!fr) p q (g + l.length) (s ++ encL l)).all fun x => x.2.lt1 H.length) = true := by cases fr <;> simp [mPQ, hpl, hql]
  simp -implicitDefEqProofs [hlen, hw, -List.all_eq_true, hlt]
def encS (s : Bs) : Bs := encN s.length ++ s
def encT (l : List Bs) : Bs := (l.map encS).flatten
def gT (l : List Bs) : Nat := (l.map fun s => if s = [] then 1 else 2).sum
theorem encT_take {l : List Bs} {k : Nat} (h : k < l.length) : encT (l.take (k + 1)) = encT (l.take k) ++ encS l[k] := by
  unfold encT; rw [List.take_succ_eq_append_getElem h, List.map_append, List.flatten_append]; simp
theorem gT_take {l : List Bs} {k : Nat} (h : k < l.length) : gT (l.take (k + 1)) = gT (l.take k) + if l[k] = [] then 1 else 2 := by
  unfold gT; rw [List.take_succ_eq_append_getElem h, List.map_append, List.sum_append]; simp
theorem encT_take_le (l : List Bs) (k : Nat) : (encT (l.take k)).length ≤ (encT l).length := by
  have : encT l = encT (l.take k) ++ encT (l.drop k) := by unfold encT; rw [← List.flatten_append, ← List.map_append, List.take_append_drop]
  rw [this]; simp
theorem encL1 (x : Int) : encL [x] = encN x := by simp [encL]
def txts (l : List Bs) : GV := .sl 1 (l.map fun x => [.str x])
theorem t_step {H : List Blk} {fr : Bool} {p q g : Nat} {s : Bs} (w : Wr H fr p q g s) (l : List Bs) (hl : l.length ≤ 9223372036854775807) (hr : s.length + (encT l).length ≤ 140737488355328) (k : Nat) (hk : k < l.length) :
    kpN [0, 6, 7, 8] (evCode (EvF tab) H L27_0 ⟨[(0, .ptr p 0), (6, .g (txts l)), (7, I l.length), (8, I k)], if k = 0 then [] else mPQ fr p q (g + gT (l.take k)) (s ++ encT (l.take k)), []⟩) =
      some (.normal, ⟨[(0, .ptr p 0), (6, .g (txts l)), (7, I l.length), (8, I (k + 1 : Nat))], mPQ fr p q (g + gT (l.take (k + 1))) (s ++ encT (l.take (k + 1))), []⟩) := by
  obtain ⟨hpl, hql, hne⟩ := w.lt
  obtain ⟨x, ex⟩ : ∃ x, l[k] = x := ⟨_, rfl⟩
  have hsz := encT_take_le l (k + 1)
  rw [encT_take hk, ex, List.length_append] at hsz
  rw [encT_take hk, ex, ← List.append_assoc, gT_take hk, ex]
  unfold encS at hsz ⊢
  rw [List.length_append] at hsz
  have hel : (l.map fun x => [GV.str x])[k]? = some [.str x] := by simp [hk, ex]
  have hkl : (k : Int) < l.length := by omega
  have hmx : IntKind.i64.wrap ((k : Int) + 1) = (k : Int) + 1 := wrap_succ hk hl
  obtain ⟨v, ev⟩ : ∃ v, encN (x.length : Int) = v := ⟨_, rfl⟩
  have hx : ∀ y ∈ [(x.length : Int)], 0 ≤ y ∧ y ≤ 9223372036854775807 := fun y hy => by
    rw [List.mem_singleton.1 hy]; omega
  rw [ev] at hsz ⊢
  delta L27_0
  unfold txts
  by_cases h0 : k = 0
  · subst h0
    have e0 : encT (l.take 0) = [] := rfl
    have e2 : gT (l.take 0) = 0 := rfl
    rw [e0, List.length_nil, Nat.zero_add] at hsz
    have hn := n_ev w [(x.length : Int)] (by simp) hx (by simp) (by rw [encL1, ev]; omega)
    rw [encL1, ev] at hn
    simp only [ints, List.map_cons, List.map_nil, List.length_cons, List.length_nil, Nat.zero_add] at hn
    have e1 : IntKind.i64.wrap 1 = 1 := rfl
    rw [e0, e2, List.append_nil, Nat.zero_add]
    by_cases hx0 : x = []
    · subst hx0
      have e9 : ((([] : Bs).length : Nat) : Int) = 0 := rfl
      rw [e9] at hn
      have hs1 := WS0_ev (w.set1 (g + 1) (s ++ v))
      have hs2 := WS0_ev (w.set2 (g + 1) (s ++ v))
      cases fr <;> simp -implicitDefEqProofs [mPQ, hk, e1, hel, hkl, hn, hs1, hs2, hpl, hql, hne, Ne.symm hne, setB_old, updM, ex, chunk]
    · have hs1 := WS_ev (w.set1 (g + 1) (s ++ v)) x hx0 (by simp; omega)
      have hs2 := WS_ev (w.set2 (g + 1) (s ++ v)) x hx0 (by simp; omega)
      cases fr <;> simp -implicitDefEqProofs [mPQ, hk, e1, hel, hkl, hn, hs1, hs2, hpl, hql, hne, Ne.symm hne, setB_old, updM, ex, chunk, hx0]
  · rw [if_neg h0]
    obtain ⟨s1, es1⟩ : ∃ s1, s ++ encT (l.take k) = s1 := ⟨_, rfl⟩
    obtain ⟨g1, eg1⟩ : ∃ g1, g + gT (l.take k) = g1 := ⟨_, rfl⟩
    have hlen : s1.length + v.length + x.length ≤ 140737488355328 := by rw [← es1]; simp; omega
    rw [es1, ← Nat.add_assoc, eg1]
    have hn1 := n_ev (w.set1 g1 s1) [(x.length : Int)] (by simp) hx (by simp) (by rw [encL1, ev]; omega)
    have hn2 := n_ev (w.set2 g1 s1) [(x.length : Int)] (by simp) hx (by simp) (by rw [encL1, ev]; omega)
    rw [encL1, ev] at hn1 hn2
    simp only [ints, List.map_cons, List.map_nil, List.length_cons, List.length_nil, Nat.zero_add] at hn1 hn2
    by_cases hx0 : x = []
    · subst hx0
      have e9 : ((([] : Bs).length : Nat) : Int) = 0 := rfl
      rw [e9] at hn1 hn2
      have hs1 := WS0_ev (w.set1 (g1 + 1) (s1 ++ v))
      have hs2 := WS0_ev (w.set2 (g1 + 1) (s1 ++ v))
      cases fr <;> simp -implicitDefEqProofs [mPQ, hel, hkl, hn1, hn2, hs1, hs2, hpl, hql, hne, Ne.symm hne, setB_old, updM, ex, hmx, chunk]
    · have hs1 := WS_ev (w.set1 (g1 + 1) (s1 ++ v)) x hx0 (by simp; omega)
      have hs2 := WS_ev (w.set2 (g1 + 1) (s1 ++ v)) x hx0 (by simp; omega)
      cases fr <;> simp -implicitDefEqProofs [mPQ, hel, hkl, hn1, hn2, hs1, hs2, hpl, hql, hne, Ne.symm hne, setB_old, updM, ex, hmx, chunk, hx0, Nat.add_assoc]
theorem t_ev {H : List Blk} {fr : Bool} {p q g : Nat} {s : Bs} (w : Wr H fr p q g s) (l : List Bs) (h0 : l ≠ []) (hl : l.length ≤ 9223372036854775807) (hr : s.length + (encT l).length ≤ 140737488355328) :
    EvF tab 27 [.ptr p 0, .g (txts l)] H = some ⟨.tup [], mPQ fr p q (g + gT l) (s ++ encT l), []⟩ := by
  obtain ⟨hpl, hql, hne⟩ := w.lt
  have hw := loop_cnt (E := EvF tab) (h := H) (c := L27_0) (lv := [0, 6, 7, 8]) l.length (fun k => ⟨[(0, .ptr p 0), (6, .g (txts l)), (7, I l.length), (8, I k)], if k = 0 then [] else mPQ fr p q (g + gT (l.take k)) (s ++ encT (l.take k)), []⟩)
    (.exit 0, ⟨[(0, .ptr p 0), (6, .g (txts l)), (7, I l.length), (8, I l.length), (9, B false)], mPQ fr p q (g + gT l) (s ++ encT l), []⟩) (by simp) (fun k hk => by rw [t_step w l hl hr k hk]; simp) (by
      have h1 : ¬ l.length = 0 := fun e => h0 (List.eq_nil_of_length_eq_zero e)
      simp only [if_neg h1, List.take_length]
      delta L27_0
      simp -implicitDefEqProofs)
  simp only [if_true] at hw
  have e0 : ((0 : Nat) : Int) = 0 := rfl
  rw [e0] at hw
  refine EvF_walk t27 (by simp) ?_
  have hlen : ∀ h st, lenV h st (.g (txts l)) = some l.length := fun h st => by simp [txts, lenV]
  have hlt : ((mPQ fr p q (g + gT l) (s ++ encT l)).all fun x => x.2.lt1 H.length) = true := by cases fr <;> simp [mPQ, hpl, hql]
  simp -implicitDefEqProofs [hlen, hw, -List.all_eq_true, hlt]
def encB (b : Bool) : Bs := if b = true then [1] else [0]
theorem encN1 : encN 1 = [1] := by unfold encN varB; rw [varI, varL]; rfl
theorem encN0 : encN 0 = [0] := by unfold encN varB; rw [varI, varL]; rfl
theorem b_ev {H : List Blk} {fr : Bool} {p q g : Nat} {s : Bs} (w : Wr H fr p q g s) (b : Bool) (hr : s.length + 1 ≤ 140737488355328) :
    EvF tab 26 [.ptr p 0, B b] H = some ⟨.tup [], mPQ fr p q (g + 1) (s ++ encB b), []⟩ := by
  obtain ⟨hpl, hql, hne⟩ := w.lt
  refine EvF_walk t26 (by simp) ?_
  have h1 := n_ev w [1] (by simp) (by simp) (by simp) (by rw [encL1, encN1]; simpa using hr)
  have h2 := n_ev w [0] (by simp) (by simp) (by simp) (by rw [encL1, encN0]; simpa using hr)
  rw [encL1, encN1] at h1
  rw [encL1, encN0] at h2
  simp only [ints, List.map_cons, List.map_nil, List.length_cons, List.length_nil, Nat.zero_add] at h1 h2
  cases fr <;> cases b <;> simp -implicitDefEqProofs [mPQ, h1, h2, hpl, hql, hne, Ne.symm hne, setB_old, updM, chunk, encB]
end Go.Proofs.YtenndgooepdmiaaGreatDoor
end
section
namespace Go.Proofs.YtenndgooepdmiaaGreatDoor
open Go Go.AM Go.Proofs
set_option maxRecDepth 4000
set_option linter.unusedSimpArgs false
set_option linter.unusedVariables false
def numOk (n : Int) : Bool := decide (0 ≤ n) && decide (n ≤ 1099511627775)
def txtOk (k v : Bs) : Bool := decide (k.length ≤ 40) && decide (v.length ≤ 20)
def cmpOk (c : Cmp) : Bool := txtOk c.key c.value && decide (1 ≤ c.what) && decide (c.what ≤ 4) && decide (1 ≤ c.how) && decide (c.how ≤ 3) && numOk c.n
def mutOk (m : Mut) : Bool := txtOk m.key m.value && numOk m.lease
def cmpsOk (s : Sl Cmp) : Bool := decide (s.l.length ≤ 4) && s.l.all cmpOk
def mutsOk (s : Sl Mut) : Bool := decide (s.l.length ≤ 4) && s.l.all mutOk
def reqOk (r : Req) : Bool := (decide (1 ≤ r.kind) && decide (r.kind ≤ 8)) && txtOk r.key r.value && (numOk r.who && (numOk r.seq && (numOk r.lease && (numOk r.rev && (numOk r.ttl && numOk r.token))))) && cmpsOk r.iff && mutsOk r.thn && mutsOk r.els
theorem all_any {α : Type} (p : α → Bool) (l : List α) : l.all p = !(l.any fun x => !p x) := by
  induction l with
  | nil => rfl
  | cons x l ih => simp only [List.all_cons, List.any_cons, ih]; cases p x <;> rfl
theorem num1_ev (n : Int) (H : List Blk) : EvF tab 69 [I n] H = some ⟨B (!numOk n), [], []⟩ := by
  refine EvF_walk t69 (by simp) ?_
  unfold numOk
  by_cases h1 : n < 0
  · simp -implicitDefEqProofs [h1, show ¬ 0 ≤ n by omega]
  · by_cases h2 : n ≤ 1099511627775
    · simp -implicitDefEqProofs [h1, h2, show 0 ≤ n by omega, show ¬ 1099511627775 < n by omega]
    · simp -implicitDefEqProofs [h1, h2, show 0 ≤ n by omega, show 1099511627775 < n by omega]
theorem number_ev (l : List Int) (hl : l.length ≤ 9223372036854775807) (H : List Blk) : EvF tab 49 [.g (ints l)] H = some ⟨B (l.all numOk), [], []⟩ := by
  have hc := contains_ev (Tb := tab) (f := 68) (g := 90) (agg := false) (n := 1) (c := fun x : Int => [GV.int .i64 x]) t68 t90 (fun x => I x) (fun x => !numOk x) (.g (.fn 69)) (.of l) hl H (by simp) (fun x _ t => by
    simp -implicitDefEqProofs [num1_ev])
  refine EvF_walk t49 (by simp) ?_
  simp only [Sl.g_of, Sl.l_of] at hc
  unfold ints
  rw [all_any]
  generalize (l.any fun x => !numOk x) = b at hc ⊢
  simp -implicitDefEqProofs [hc]
theorem texts_ev (k v : Bs) (H : List Blk) : EvF tab 48 [T k, T v] H = some ⟨B (txtOk k v), [], []⟩ := by
  refine EvF_walk t48 (by simp) ?_
  unfold txtOk
  by_cases h1 : k.length ≤ 40
  · by_cases h2 : v.length ≤ 20
    · simp -implicitDefEqProofs [h1, h2, show (k.length : Int) ≤ 40 by omega, show (v.length : Int) ≤ 20 by omega]
    · simp -implicitDefEqProofs [h1, h2, show (k.length : Int) ≤ 40 by omega, show ¬ (v.length : Int) ≤ 20 by omega]
  · simp -implicitDefEqProofs [h1, show ¬ (k.length : Int) ≤ 40 by omega]
theorem num_one (n : Int) (H : List Blk) : EvF tab 49 [.g (.sl 1 [[.int .i64 n]])] H = some ⟨B (numOk n), [], []⟩ := by
  have := number_ev [n] (by simp) H
  simp only [ints, List.map_cons, List.map_nil, List.all_cons, List.all_nil, Bool.and_true] at this
  exact this
theorem mayCmp_ev (c : Cmp) (H : List Blk) : EvF tab 51 [A c.c] H = some ⟨B (cmpOk c), [], []⟩ := by
  refine EvF_walk t51 (by simp) ?_
  unfold cmpOk
  have ht := texts_ev c.key c.value
  have hn := num_one c.n
  generalize txtOk c.key c.value = b1 at ht ⊢
  generalize numOk c.n = b2 at hn ⊢
  cases b1
  · simp -implicitDefEqProofs [A, Cmp.c, ht]
  · by_cases h1 : 1 ≤ c.what
    · by_cases h2 : c.what ≤ 4
      · by_cases h3 : 1 ≤ c.how
        · by_cases h4 : c.how ≤ 3
          · simp -implicitDefEqProofs [A, Cmp.c, ht, hn, h1, h2, h3, h4, chunk]
          · simp -implicitDefEqProofs [A, Cmp.c, ht, hn, h1, h2, h3, h4, chunk]
        · simp -implicitDefEqProofs [A, Cmp.c, ht, hn, h1, h2, h3, chunk]
      · simp -implicitDefEqProofs [A, Cmp.c, ht, hn, h1, h2, chunk]
    · simp -implicitDefEqProofs [A, Cmp.c, ht, hn, h1, chunk]
theorem mayMut_ev (m : Mut) (H : List Blk) : EvF tab 53 [A m.c] H = some ⟨B (mutOk m), [], []⟩ := by
  refine EvF_walk t53 (by simp) ?_
  unfold mutOk
  have ht := texts_ev m.key m.value
  have hn := num_one m.lease
  generalize txtOk m.key m.value = b1 at ht ⊢
  generalize numOk m.lease = b2 at hn ⊢
  cases b1 <;> simp -implicitDefEqProofs [A, Mut.c, ht, hn, chunk]
theorem allCmp1_ev (c : Cmp) {H : List Blk} {p : Nat} (hp : H[p]? = some (.cells [.g (.fn 51)])) : EvF tab 71 [A c.c, .ptr p 0] H = some ⟨B (!cmpOk c), [], []⟩ := by
  refine EvF_walk t71 (by simp) ?_
  have hpl : p < H.length := (List.getElem?_eq_some_iff.1 hp).1
  have hp2 := (List.getElem?_eq_some_iff.1 hp).2
  have hm := fun H => mayCmp_ev c H
  obtain ⟨b, eb⟩ : ∃ b, cmpOk c = b := ⟨_, rfl⟩
  rw [eb] at hm ⊢
  simp only [A, Cmp.c, List.map_cons, List.map_nil] at hm
  simp -implicitDefEqProofs [A, Cmp.c, hp2, hpl, getB_old, orB, hm]
theorem allMut1_ev (c : Mut) {H : List Blk} {p : Nat} (hp : H[p]? = some (.cells [.g (.fn 53)])) : EvF tab 73 [A c.c, .ptr p 0] H = some ⟨B (!mutOk c), [], []⟩ := by
  refine EvF_walk t73 (by simp) ?_
  have hpl : p < H.length := (List.getElem?_eq_some_iff.1 hp).1
  have hp2 := (List.getElem?_eq_some_iff.1 hp).2
  have hm := fun H => mayMut_ev c H
  obtain ⟨b, eb⟩ : ∃ b, mutOk c = b := ⟨_, rfl⟩
  rw [eb] at hm ⊢
  simp only [A, Mut.c, List.map_cons, List.map_nil] at hm
  simp -implicitDefEqProofs [A, Mut.c, hp2, hpl, getB_old, orB, hm]
theorem allCmp_ev (s : Sl Cmp) (hl : s.l.length ≤ 9223372036854775807) (H : List Blk) : EvF tab 50 [.g (Cmps.g s), I 4, .g (.fn 51)] H = some ⟨B (cmpsOk s), [], []⟩ := by
  have hc := contains_ev (Tb := tab) (f := 70) (g := 91) (agg := true) (n := 5) (c := Cmp.c) t70 t91 (fun x => A x.c) (fun x => !cmpOk x) (.fv 71 [.ptr H.length 0]) s hl (H ++ [.cells [.g (.fn 51)]]) (fun x => by simp [A, Cmp.c]) (fun x _ t => by
    have h1 := allCmp1_ev x (H := H ++ [.cells [.g (.fn 51)]]) (p := H.length) (by simp)
    simp -implicitDefEqProofs [h1])
  refine EvF_walk t50 (by simp) ?_
  unfold cmpsOk
  rw [all_any]
  generalize (s.l.any fun x => !cmpOk x) = b at hc ⊢
  by_cases h1 : s.l.length ≤ 4
  · simp -implicitDefEqProofs [hc, h1, show (s.l.length : Int) ≤ 4 by omega]
  · simp -implicitDefEqProofs [hc, h1, show ¬ (s.l.length : Int) ≤ 4 by omega]
theorem allMut_ev (s : Sl Mut) (hl : s.l.length ≤ 9223372036854775807) (H : List Blk) : EvF tab 52 [.g (Muts.g s), I 4, .g (.fn 53)] H = some ⟨B (mutsOk s), [], []⟩ := by
  have hc := contains_ev (Tb := tab) (f := 72) (g := 92) (agg := true) (n := 4) (c := Mut.c) t72 t92 (fun x => A x.c) (fun x => !mutOk x) (.fv 73 [.ptr H.length 0]) s hl (H ++ [.cells [.g (.fn 53)]]) (fun x => by simp [A, Mut.c]) (fun x _ t => by
    have h1 := allMut1_ev x (H := H ++ [.cells [.g (.fn 53)]]) (p := H.length) (by simp)
    simp -implicitDefEqProofs [h1])
  refine EvF_walk t52 (by simp) ?_
  unfold mutsOk
  rw [all_any]
  generalize (s.l.any fun x => !mutOk x) = b at hc ⊢
  by_cases h1 : s.l.length ≤ 4
  · simp -implicitDefEqProofs [hc, h1, show (s.l.length : Int) ≤ 4 by omega]
  · simp -implicitDefEqProofs [hc, h1, show ¬ (s.l.length : Int) ≤ 4 by omega]
/-- The lists of a request, so many things at most. -/
def RL (r : Req) : Prop := r.iff.l.length ≤ 9223372036854775807 ∧ r.thn.l.length ≤ 9223372036854775807 ∧ r.els.l.length ≤ 9223372036854775807
theorem rl {r : Req} (w : r.wf) : RL r := ⟨w.2.2.2.2.2.2.2.2.2.1.2, w.2.2.2.2.2.2.2.2.2.2.1.2, w.2.2.2.2.2.2.2.2.2.2.2.2⟩
theorem MayAsk_ev (r : Req) (w : RL r) (H : List Blk) : EvF tab 24 [A r.c] H = some ⟨B (reqOk r), [], []⟩ := by
  have ht := texts_ev r.key r.value
  have hn := number_ev [r.who, r.seq, r.lease, r.rev, r.ttl, r.token] (by simp)
  have e : ([r.who, r.seq, r.lease, r.rev, r.ttl, r.token].all numOk) = (numOk r.who && (numOk r.seq && (numOk r.lease && (numOk r.rev && (numOk r.ttl && numOk r.token))))) := by simp only [List.all_cons, List.all_nil, Bool.and_true]
  rw [e] at hn
  simp only [ints, List.map_cons, List.map_nil] at hn
  have hc := allCmp_ev r.iff w.1
  have hm1 := allMut_ev r.thn w.2.1
  have hm2 := allMut_ev r.els w.2.2
  refine EvF_walk t24 (by simp) ?_
  unfold reqOk
  generalize txtOk r.key r.value = b1 at ht ⊢
  generalize (numOk r.who && (numOk r.seq && (numOk r.lease && (numOk r.rev && (numOk r.ttl && numOk r.token))))) = b2 at hn ⊢
  generalize cmpsOk r.iff = b3 at hc ⊢
  generalize mutsOk r.thn = b4 at hm1 ⊢
  generalize mutsOk r.els = b5 at hm2 ⊢
  generalize hG1 : Cmps.g r.iff = G1 at hc
  generalize hG2 : Muts.g r.thn = G2 at hm1
  generalize hG3 : Muts.g r.els = G3 at hm2
  by_cases h1 : 1 ≤ r.kind
  · by_cases h2 : r.kind ≤ 8
    · cases b1
      · simp -implicitDefEqProofs [A, Req.c, hG1, hG2, hG3, ht, h1, h2, show ¬ r.kind < 1 by omega, show ¬ 8 < r.kind by omega]
      · cases b2
        · simp -implicitDefEqProofs [A, Req.c, hG1, hG2, hG3, ht, hn, chunk, h1, h2, show ¬ r.kind < 1 by omega, show ¬ 8 < r.kind by omega]
        · cases b3
          · simp -implicitDefEqProofs [A, Req.c, hG1, hG2, hG3, ht, hn, hc, chunk, h1, h2, show ¬ r.kind < 1 by omega, show ¬ 8 < r.kind by omega]
          · cases b4
            · simp -implicitDefEqProofs [A, Req.c, hG1, hG2, hG3, ht, hn, hc, hm1, chunk, h1, h2, show ¬ r.kind < 1 by omega, show ¬ 8 < r.kind by omega]
            · simp -implicitDefEqProofs [A, Req.c, hG1, hG2, hG3, ht, hn, hc, hm1, hm2, chunk, h1, h2, show ¬ r.kind < 1 by omega, show ¬ 8 < r.kind by omega]
    · simp -implicitDefEqProofs [A, Req.c, hG1, hG2, hG3, h1, h2, show ¬ r.kind < 1 by omega, show 8 < r.kind by omega]
  · simp -implicitDefEqProofs [A, Req.c, hG1, hG2, hG3, h1, show r.kind < 1 by omega]
end Go.Proofs.YtenndgooepdmiaaGreatDoor
end
section
namespace Go.Proofs.YtenndgooepdmiaaGreatDoor
open Go Go.AM Go.Proofs
set_option maxRecDepth 4000
set_option linter.unusedSimpArgs false
set_option linter.unusedVariables false
theorem cat {a b : Bs} (h : a.length + b.length ≤ 9223372036854775807) : binV .add (T a) (T b) = some (T (a ++ b)) := by rw [binV_sadd, if_pos h]
theorem number2_ev (n : Int) (H : List Blk) : EvF tab 75 [I n] H = some ⟨B (numOk n), [], []⟩ := by
  refine EvF_walk t75 (by simp) ?_
  unfold numOk
  by_cases h1 : 0 ≤ n <;> simp -implicitDefEqProofs [h1]
theorem texts2_ev (k v : Bs) (H : List Blk) : EvF tab 76 [T k, T v] H = some ⟨B (txtOk k v), [], []⟩ := by
  refine EvF_walk t76 (by simp) ?_
  unfold txtOk
  by_cases h1 : k.length ≤ 40
  · by_cases h2 : v.length ≤ 20
    · simp -implicitDefEqProofs [h1, h2, show (k.length : Int) ≤ 40 by omega, show (v.length : Int) ≤ 20 by omega]
    · simp -implicitDefEqProofs [h1, h2, show (k.length : Int) ≤ 40 by omega, show ¬ (v.length : Int) ≤ 20 by omega]
  · simp -implicitDefEqProofs [h1, show ¬ (k.length : Int) ≤ 40 by omega]
theorem muts2_loop (s : Sl Mut) (hl : s.l.length ≤ 9223372036854775807) (H : List Blk) :
    loopE (EvF tab) H L77_0 [0, 3] ⟨[(0, .g (Muts.g s)), (3, I 0)], [], []⟩ =
      some (if allP mutOk s.l = true then (.exit 0, ⟨[(0, .g (Muts.g s)), (3, I s.l.length), (10, B false)], [], []⟩) else (.ret, ⟨[(2, B false)], [], []⟩)) := by
  refine loop_all0 (l := s.l) mutOk (fun k => ⟨[(0, .g (Muts.g s)), (3, I k)], [], []⟩) _ _ (by simp) (by simp) (fun k x hk hx hy => ?_) (by delta L77_0; cases s <;> simp -implicitDefEqProofs)
  delta L77_0
  have e2 := wrap_succ hk hl
  cases s with
  | nil => simp at hk
  | of l =>
    simp only [Sl.l_of] at hk hy
    unfold mutOk
    have h1 := texts2_ev x.key x.value
    have h2 := number2_ev x.lease
    generalize txtOk x.key x.value = b1 at h1 ⊢
    generalize numOk x.lease = b2 at h2 ⊢
    cases b1 <;> cases b2 <;> simp -implicitDefEqProofs [hk, hy, Mut.c, h1, h2, e2]
theorem muts2_ev (s : Sl Mut) (hl : s.l.length ≤ 9223372036854775807) (H : List Blk) : EvF tab 77 [.g (Muts.g s)] H = some ⟨B (mutsOk s), [], []⟩ := by
  refine EvF_walk t77 (by simp) ?_
  have hw := muts2_loop s hl H
  unfold mutsOk
  rw [show s.l.all mutOk = allP mutOk s.l from rfl]
  by_cases h : s.l.length ≤ 4
  · cases hs : allP mutOk s.l <;> rw [hs] at hw <;> simp only [Bool.false_eq_true, if_true, if_false] at hw
    all_goals simp -implicitDefEqProofs [h, show ¬ (4 : Int) < (s.l.length : Int) by omega, hw]
  · simp -implicitDefEqProofs [h, show (4 : Int) < (s.l.length : Int) by omega]
theorem runG_all {α : Type} (p : α → Bool) : ∀ (l : List α) k, runG (fun k (x : α) (_ : Unit) => if p x = true then .inl () else .inr ()) k l () = if allP p l = true then .inl () else (.inr () : Unit ⊕ Unit) := by
  intro l
  induction l with
  | nil => intro k; rfl
  | cons x l ih =>
    intro k
    simp only [runG, allP_cons]
    by_cases h : p x = true
    · simp only [h, if_true, Bool.true_and]; exact ih _
    · simp [h]
theorem MayAsk2_loop (r : Req) (hl : r.iff.l.length ≤ 9223372036854775807) (H : List Blk) : ∃ o', loopE (EvF tab) H L58_0 [1, 3] ⟨[(1, .ptr H.length 0), (3, I 0)], [], [.cells (r.c.map .g)]⟩ =
      some (if allP cmpOk r.iff.l = true then (.exit 0, ⟨[(1, .ptr H.length 0), (3, I r.iff.l.length), (69, B false)], [], .cells (r.c.map .g) :: o'⟩) else (.ret, ⟨[(2, B false)], [], .cells (r.c.map .g) :: o'⟩)) := by
  have hw := loop_runJ (E := EvF tab) (h := H) (c := L58_0) (lv := [1, 3]) (l := r.iff.l) (β := Unit) (γ := Unit) (fun _ _ => True) (fun k x _ => if cmpOk x = true then .inl () else .inr ())
    (fun k _ o => ⟨[(1, .ptr H.length 0), (3, I k)], [], .cells (r.c.map .g) :: o⟩) (fun _ o => (.exit 0, ⟨[(1, .ptr H.length 0), (3, I r.iff.l.length), (69, B false)], [], .cells (r.c.map .g) :: o⟩)) (fun _ o => (.ret, ⟨[(2, B false)], [], .cells (r.c.map .g) :: o⟩)) (by simp) (by simp) (fun k x _ o hk hx hy _ => ?_) (fun _ o _ => by delta L58_0; simp -implicitDefEqProofs [Req.c]) () [] trivial
  · obtain ⟨o', hw⟩ := hw
    refine ⟨o', ?_⟩
    rw [runG_all] at hw
    have e0 : ((0 : Nat) : Int) = 0 := rfl
    simp only [e0] at hw
    rw [hw]
    cases allP cmpOk r.iff.l <;> rfl
  · have e2 := wrap_succ hk hl
    delta L58_0
    obtain ⟨b1, b2, b3, b4, b5, b6, b7, b8, b9, b10, bi, bt, be⟩ := r
    simp only at hk hl hx hy e2 ⊢
    cases bi with
    | nil => simp at hk
    | of l =>
      simp only [Sl.l_of] at hk hy e2 ⊢
      have h1 := texts2_ev x.key x.value
      have h2 := number2_ev x.n
      have hO : cmpOk x = (txtOk x.key x.value && decide (1 ≤ x.what) && decide (x.what ≤ 4) && decide (1 ≤ x.how) && decide (x.how ≤ 3) && numOk x.n) := rfl
      generalize txtOk x.key x.value = b1 at h1 hO
      generalize numOk x.n = b2 at h2 hO
      cases hc : cmpOk x <;> rw [hc] at hO
      · refine ⟨o ++ [.cells (x.c.map .g)], ?_⟩
        cases b1
        · simp -implicitDefEqProofs [hk, hy, Req.c, Cmp.c, h1, e2]
        · by_cases k1 : 1 ≤ x.what
          · by_cases k2 : x.what ≤ 4
            · by_cases k3 : 1 ≤ x.how
              · by_cases k4 : x.how ≤ 3
                · cases b2
                  · simp -implicitDefEqProofs [hk, hy, Req.c, Cmp.c, h1, h2, e2, k1, k2, k3, k4, show ¬ x.what < 1 by omega, show ¬ 4 < x.what by omega, show ¬ x.how < 1 by omega, show ¬ 3 < x.how by omega]
                  · simp [k1, k2, k3, k4] at hO
                · simp -implicitDefEqProofs [hk, hy, Req.c, Cmp.c, h1, h2, e2, k1, k2, k3, k4, show ¬ x.what < 1 by omega, show ¬ 4 < x.what by omega, show ¬ x.how < 1 by omega, show 3 < x.how by omega]
              · simp -implicitDefEqProofs [hk, hy, Req.c, Cmp.c, h1, h2, e2, k1, k2, k3, show ¬ x.what < 1 by omega, show ¬ 4 < x.what by omega, show x.how < 1 by omega]
            · simp -implicitDefEqProofs [hk, hy, Req.c, Cmp.c, h1, h2, e2, k1, k2, show ¬ x.what < 1 by omega, show 4 < x.what by omega]
          · simp -implicitDefEqProofs [hk, hy, Req.c, Cmp.c, h1, h2, e2, k1, show x.what < 1 by omega]
      · refine ⟨trivial, o ++ [.cells (x.c.map .g)], ?_⟩
        symm at hO
        simp only [Bool.and_eq_true, decide_eq_true_eq] at hO
        obtain ⟨⟨⟨⟨⟨rfl, k1⟩, k2⟩, k3⟩, k4⟩, rfl⟩ := hO
        simp -implicitDefEqProofs [hk, hy, Req.c, Cmp.c, h1, h2, e2, k1, k2, k3, k4, show ¬ x.what < 1 by omega, show ¬ 4 < x.what by omega, show ¬ x.how < 1 by omega, show ¬ 3 < x.how by omega]
theorem MayAsk2_ev (r : Req) (w : RL r) (H : List Blk) : EvF tab 58 [A r.c] H = some ⟨B (reqOk r), [], []⟩ := by
  obtain ⟨o', hw⟩ := MayAsk2_loop r w.1 H
  have hm1 := muts2_ev r.thn w.2.1
  have hm2 := muts2_ev r.els w.2.2
  refine EvF_walk t58 (by simp) ?_
  obtain ⟨kind, who, seq, once, key, value, lease, rev, ttl, token, iff, thn, els⟩ := r
  unfold reqOk cmpsOk
  simp only at hw hm1 hm2 ⊢
  have ht := texts2_ev key value
  have h1 := number2_ev who
  have h2 := number2_ev seq
  have h3 := number2_ev lease
  have h4 := number2_ev rev
  have h5 := number2_ev ttl
  have h6 := number2_ev token
  rw [show iff.l.all cmpOk = allP cmpOk iff.l from rfl]
  generalize txtOk key value = bt at ht ⊢
  generalize numOk who = n1 at h1 ⊢
  generalize numOk seq = n2 at h2 ⊢
  generalize numOk lease = n3 at h3 ⊢
  generalize numOk rev = n4 at h4 ⊢
  generalize numOk ttl = n5 at h5 ⊢
  generalize numOk token = n6 at h6 ⊢
  generalize mutsOk thn = m1 at hm1 ⊢
  generalize mutsOk els = m2 at hm2 ⊢
  simp only [Req.c, List.map_cons, List.map_nil] at hw
  by_cases k1 : 1 ≤ kind
  · by_cases k2 : kind ≤ 8
    · cases n1
      · simp -implicitDefEqProofs [A, Req.c, h1, k1, k2, show ¬ kind < 1 by omega, show ¬ 8 < kind by omega]
      cases n2
      · simp -implicitDefEqProofs [A, Req.c, h1, h2, k1, k2, show ¬ kind < 1 by omega, show ¬ 8 < kind by omega]
      cases n3
      · simp -implicitDefEqProofs [A, Req.c, h1, h2, h3, k1, k2, show ¬ kind < 1 by omega, show ¬ 8 < kind by omega]
      cases n4
      · simp -implicitDefEqProofs [A, Req.c, h1, h2, h3, h4, k1, k2, show ¬ kind < 1 by omega, show ¬ 8 < kind by omega]
      cases n5
      · simp -implicitDefEqProofs [A, Req.c, h1, h2, h3, h4, h5, k1, k2, show ¬ kind < 1 by omega, show ¬ 8 < kind by omega]
      cases n6
      · simp -implicitDefEqProofs [A, Req.c, h1, h2, h3, h4, h5, h6, k1, k2, show ¬ kind < 1 by omega, show ¬ 8 < kind by omega]
      cases bt
      · simp -implicitDefEqProofs [A, Req.c, h1, h2, h3, h4, h5, h6, ht, k1, k2, show ¬ kind < 1 by omega, show ¬ 8 < kind by omega]
      by_cases k3 : iff.l.length ≤ 4
      · cases hs : allP cmpOk iff.l <;> rw [hs] at hw <;> simp only [Bool.false_eq_true, if_true, if_false] at hw
        · simp -implicitDefEqProofs [A, Req.c, h1, h2, h3, h4, h5, h6, ht, k1, k2, k3, hw, show ¬ kind < 1 by omega, show ¬ 8 < kind by omega, show ¬ (4 : Int) < (iff.l.length : Int) by omega]
        · cases m1 <;> simp -implicitDefEqProofs [A, Req.c, h1, h2, h3, h4, h5, h6, ht, hm1, hm2, k1, k2, k3, hw, show ¬ kind < 1 by omega, show ¬ 8 < kind by omega, show ¬ (4 : Int) < (iff.l.length : Int) by omega]
      · simp -implicitDefEqProofs [A, Req.c, h1, h2, h3, h4, h5, h6, ht, k1, k2, k3, show ¬ kind < 1 by omega, show ¬ 8 < kind by omega, show (4 : Int) < (iff.l.length : Int) by omega]
    · simp -implicitDefEqProofs [A, Req.c, k1, k2, show ¬ kind < 1 by omega, show 8 < kind by omega]
  · simp -implicitDefEqProofs [A, Req.c, k1, show kind < 1 by omega]
end Go.Proofs.YtenndgooepdmiaaGreatDoor
end
section
namespace Go.Proofs.YtenndgooepdmiaaGreatDoor
open Go Go.AM Go.Proofs
set_option maxRecDepth 20000
set_option maxHeartbeats 1000000
set_option linter.unusedSimpArgs false
set_option linter.unusedVariables false
theorem encN_len (n : Int) (h : n ≤ 9223372036854775807) : (encN n).length ≤ 10 := by
  unfold encN varB
  have := varI_len n.toNat 9 (by omega)
  simp; omega
theorem encS_len (s : Bs) (h : s.length ≤ 9223372036854775807) : (encS s).length ≤ 10 + s.length := by
  unfold encS
  have := encN_len s.length (by omega)
  simp; omega
theorem encB_len (b : Bool) : (encB b).length = 1 := by cases b <;> rfl
def encMut (m : Mut) : Bs := encB m.gone ++ encS m.key ++ encS m.value ++ encN m.lease
def encMuts (l : List Mut) : Bs := encN l.length ++ (l.map encMut).flatten
def encCmp (c : Cmp) : Bs := encS c.key ++ encN c.what ++ encN c.how ++ encN c.n ++ encS c.value
def encHead (r : Req) : Bs := [1] ++ encN r.kind ++ encN r.who ++ encN r.seq ++ encB r.once ++ encS r.key ++ encS r.value ++ encN r.lease ++ encN r.rev ++ encN r.ttl ++ encN r.token ++ encN r.iff.l.length
def encReq (r : Req) : Bs := encHead r ++ (r.iff.l.map encCmp).flatten ++ encMuts r.thn.l ++ encMuts r.els.l
theorem txtOk_iff {k v : Bs} : txtOk k v = true ↔ k.length ≤ 40 ∧ v.length ≤ 20 := by simp [txtOk]
theorem numOk_iff {n : Int} : numOk n = true ↔ 0 ≤ n ∧ n ≤ 1099511627775 := by simp [numOk]
theorem mutOk_iff {m : Mut} : mutOk m = true ↔ (m.key.length ≤ 40 ∧ m.value.length ≤ 20) ∧ 0 ≤ m.lease ∧ m.lease ≤ 1099511627775 := by simp [mutOk, txtOk_iff, numOk_iff]
theorem encMut_len {m : Mut} (h : mutOk m = true) : (encMut m).length ≤ 91 := by
  obtain ⟨⟨h1, h2⟩, h3, h4⟩ := mutOk_iff.1 h
  have a1 := encS_len m.key (by omega)
  have a2 := encS_len m.value (by omega)
  have a3 := encN_len m.lease (by omega)
  have a4 := encB_len m.gone
  simp only [encMut, List.length_append]; omega
theorem putN_ev (n : Int) (h0 : 0 ≤ n) (h1 : n ≤ 9223372036854775807) (H : List Blk) : EvF tab 59 [I n] H = some ⟨T (encN n), [], []⟩ := by
  refine EvF_walk t59 (by simp) ?_
  obtain ⟨k, rfl⟩ : ∃ k : Nat, n = k := ⟨n.toNat, by omega⟩
  have hv := Var2_ev k (by omega)
  have hw : IntKind.u64.wrap (k : Int) = (k : Int) := wrap_u64 (by omega) (by omega)
  have e : encN (k : Int) = varB k := rfl
  simp -implicitDefEqProofs [hw, hv, e]
theorem putB_ev (b : Bool) (H : List Blk) : EvF tab 60 [B b] H = some ⟨T (encB b), [], []⟩ := by
  refine EvF_walk t60 (by simp) ?_
  cases b <;> simp -implicitDefEqProofs [encB]
theorem putS_ev (s : Bs) (h : s.length ≤ 1000000) (H : List Blk) : EvF tab 61 [T s] H = some ⟨T (encS s), [], []⟩ := by
  refine EvF_walk t61 (by simp) ?_
  have hn := putN_ev (s.length : Int) (by omega) (by omega)
  have hl := encN_len s.length (by omega)
  unfold encS
  generalize encN (s.length : Int) = v at hn hl ⊢
  simp -implicitDefEqProofs [hn, show v.length + s.length ≤ 9223372036854775807 by omega]
theorem foldl_app {α : Type} (f : α → Bs) : ∀ (l : List α) (b : Bs), l.foldl (fun b x => b ++ f x) b = b ++ (l.map f).flatten := by
  intro l
  induction l with
  | nil => intro b; simp
  | cons x l ih => intro b; simp [ih]
theorem putMuts_loop (s : Sl Mut) (hl : s.l.length ≤ 4) (hs : ∀ x ∈ s.l, mutOk x = true) (b : Bs) (hb : b.length ≤ 10) (H : List Blk) :
    loopE (EvF tab) H L62_0 [0, 3, 4] ⟨[(0, .g (Muts.g s)), (3, T b), (4, I 0)], [], []⟩ = some (.exit 0, ⟨[(0, .g (Muts.g s)), (3, T (b ++ (s.l.map encMut).flatten)), (4, I s.l.length), (11, B false)], [], []⟩) := by
  have hw := loop_fold (E := EvF tab) (h := H) (c := L62_0) (lv := [0, 3, 4]) (l := s.l) (β := Bs) (fun k b => b.length ≤ 10 + k * 100) (fun b x => b ++ encMut x)
    (fun k b => ⟨[(0, .g (Muts.g s)), (3, T b), (4, I k)], [], []⟩) (fun b => (.exit 0, ⟨[(0, .g (Muts.g s)), (3, T b), (4, I s.l.length), (11, B false)], [], []⟩)) (by simp) (fun k x b hk hx hy hi => ?_) (fun b _ => by delta L62_0; simp -implicitDefEqProofs) b (by simpa using hb)
  · rw [foldl_app] at hw
    exact hw
  · have hok := hs x (List.mem_of_getElem? hx)
    have hlen := encMut_len hok
    have e2 := wrap_succ hk (by omega)
    refine ⟨by simp; omega, ?_⟩
    delta L62_0
    obtain ⟨⟨h1, h2⟩, h3, h4⟩ := mutOk_iff.1 hok
    cases s with
    | nil => simp at hk
    | of l =>
      simp only [Sl.l_of] at hk hy e2 hl ⊢
      unfold encMut at hlen ⊢
      have p1 := putB_ev x.gone
      have p2 := putS_ev x.key (by omega)
      have p3 := putS_ev x.value (by omega)
      have p4 := putN_ev x.lease (by omega) (by omega)
      generalize encB x.gone = v1 at p1 hlen ⊢
      generalize encS x.key = v2 at p2 hlen ⊢
      generalize encS x.value = v3 at p3 hlen ⊢
      generalize encN x.lease = v4 at p4 hlen ⊢
      simp only [List.length_append] at hlen
      have q1 : b.length + v1.length ≤ 9223372036854775807 := by omega
      have q2 : b.length + v1.length + v2.length ≤ 9223372036854775807 := by omega
      have q3 : b.length + v1.length + v2.length + v3.length ≤ 9223372036854775807 := by omega
      have q4 : b.length + v1.length + v2.length + v3.length + v4.length ≤ 9223372036854775807 := by omega
      simp -implicitDefEqProofs [hk, hy, Mut.c, p1, p2, p3, p4, e2, q1, q2, q3, q4, ← Nat.add_assoc]
theorem mutsOk_iff {s : Sl Mut} : mutsOk s = true ↔ s.l.length ≤ 4 ∧ ∀ x ∈ s.l, mutOk x = true := by simp [mutsOk]
theorem encMuts_len {l : List Mut} (hl : l.length ≤ 4) (h : ∀ x ∈ l, mutOk x = true) : (encMuts l).length ≤ 410 := by
  have key : ∀ l : List Mut, (∀ x ∈ l, mutOk x = true) → ((l.map encMut).flatten).length ≤ 100 * l.length := by
    intro l
    induction l with
    | nil => intro _; simp
    | cons x l ih =>
      intro h
      have h1 := encMut_len (h x (by simp))
      have h2 := ih fun y hy => h y (by simp [hy])
      simp only [List.map_cons, List.flatten_cons, List.length_append, List.length_cons]; omega
  have h1 := key l h
  have h2 := encN_len l.length (by omega)
  simp only [encMuts, List.length_append]; omega
theorem putMuts_ev (s : Sl Mut) (h : mutsOk s = true) (H : List Blk) : EvF tab 62 [.g (Muts.g s)] H = some ⟨T (encMuts s.l), [], []⟩ := by
  obtain ⟨h1, h2⟩ := mutsOk_iff.1 h
  have hn := putN_ev (s.l.length : Int) (by omega) (by omega)
  have hw := putMuts_loop s h1 h2 (encN s.l.length) (encN_len _ (by omega)) H
  refine EvF_walk t62 (by simp) ?_
  unfold encMuts
  generalize encN (s.l.length : Int) = v at hn hw ⊢
  simp -implicitDefEqProofs [hn, hw]
theorem cmpOk_iff {c : Cmp} : cmpOk c = true ↔ (c.key.length ≤ 40 ∧ c.value.length ≤ 20) ∧ 1 ≤ c.what ∧ c.what ≤ 4 ∧ 1 ≤ c.how ∧ c.how ≤ 3 ∧ 0 ≤ c.n ∧ c.n ≤ 1099511627775 := by
  simp only [cmpOk, Bool.and_eq_true, decide_eq_true_eq, txtOk_iff, numOk_iff]
  constructor
  · rintro ⟨⟨⟨⟨⟨h1, h2⟩, h3⟩, h4⟩, h5⟩, h6, h7⟩; exact ⟨h1, h2, h3, h4, h5, h6, h7⟩
  · rintro ⟨h1, h2, h3, h4, h5, h6, h7⟩; exact ⟨⟨⟨⟨⟨h1, h2⟩, h3⟩, h4⟩, h5⟩, h6, h7⟩
theorem encCmp_len {c : Cmp} (h : cmpOk c = true) : (encCmp c).length ≤ 110 := by
  obtain ⟨⟨h1, h2⟩, h3, h4, h5, h6, h7, h8⟩ := cmpOk_iff.1 h
  have a1 := encS_len c.key (by omega)
  have a2 := encS_len c.value (by omega)
  have a3 := encN_len c.what (by omega)
  have a4 := encN_len c.how (by omega)
  have a5 := encN_len c.n (by omega)
  simp only [encCmp, List.length_append]; omega
theorem encCmps_len {l : List Cmp} (hl : l.length ≤ 4) (h : ∀ x ∈ l, cmpOk x = true) : ((l.map encCmp).flatten).length ≤ 440 := by
  have key : ∀ l : List Cmp, (∀ x ∈ l, cmpOk x = true) → ((l.map encCmp).flatten).length ≤ 110 * l.length := by
    intro l
    induction l with
    | nil => intro _; simp
    | cons x l ih =>
      intro h
      have h1 := encCmp_len (h x (by simp))
      have h2 := ih fun y hy => h y (by simp [hy])
      simp only [List.map_cons, List.flatten_cons, List.length_append, List.length_cons]; omega
  have := key l h; omega
structure ReqOk (r : Req) : Prop where
  k1 : 1 ≤ r.kind
  k2 : r.kind ≤ 8
  t : r.key.length ≤ 40 ∧ r.value.length ≤ 20
  n1 : 0 ≤ r.who ∧ r.who ≤ 1099511627775
  n2 : 0 ≤ r.seq ∧ r.seq ≤ 1099511627775
  n3 : 0 ≤ r.lease ∧ r.lease ≤ 1099511627775
  n4 : 0 ≤ r.rev ∧ r.rev ≤ 1099511627775
  n5 : 0 ≤ r.ttl ∧ r.ttl ≤ 1099511627775
  n6 : 0 ≤ r.token ∧ r.token ≤ 1099511627775
  i1 : r.iff.l.length ≤ 4
  i2 : ∀ x ∈ r.iff.l, cmpOk x = true
  m1 : mutsOk r.thn = true
  m2 : mutsOk r.els = true
theorem reqOk_iff {r : Req} (h : reqOk r = true) : ReqOk r := by
  simp only [reqOk, cmpsOk, Bool.and_eq_true, decide_eq_true_eq, txtOk_iff, numOk_iff] at h
  obtain ⟨⟨⟨⟨⟨⟨k1, k2⟩, t⟩, n1, n2, n3, n4, n5, n6⟩, i1, i2⟩, m1⟩, m2⟩ := h
  exact ⟨k1, k2, t, n1, n2, n3, n4, n5, n6, i1, by simpa using i2, m1, m2⟩
theorem encHead_len {r : Req} (h : ReqOk r) : (encHead r).length ≤ 200 := by
  have a1 := encS_len r.key (by have := h.t; omega)
  have a2 := encS_len r.value (by have := h.t; omega)
  have a3 := encN_len r.kind (by have := h.k2; omega)
  have a4 := encN_len r.who (by have := h.n1; omega)
  have a5 := encN_len r.seq (by have := h.n2; omega)
  have a6 := encN_len r.lease (by have := h.n3; omega)
  have a7 := encN_len r.rev (by have := h.n4; omega)
  have a8 := encN_len r.ttl (by have := h.n5; omega)
  have a9 := encN_len r.token (by have := h.n6; omega)
  have b1 := encN_len r.iff.l.length (by have := h.i1; omega)
  have b2 := encB_len r.once
  have b3 := h.t
  simp only [encHead, List.length_append, List.length_cons, List.length_nil]; omega
theorem Ask2_loop (r : Req) (h : ReqOk r) (b : Bs) (hb : b.length ≤ 200) (H : List Blk) : ∃ o', loopE (EvF tab) H L42_0 [1, 4, 5] ⟨[(1, .ptr H.length 0), (4, T b), (5, I 0)], [], [.cells (r.c.map .g)]⟩ =
    some (.exit 0, ⟨[(1, .ptr H.length 0), (4, T (b ++ (r.iff.l.map encCmp).flatten)), (5, I r.iff.l.length), (61, B false)], [], .cells (r.c.map .g) :: o'⟩) := by
  have hw := loop_runJ (E := EvF tab) (h := H) (c := L42_0) (lv := [1, 4, 5]) (l := r.iff.l) (β := Bs) (γ := Unit) (fun k b => b.length ≤ 200 + k * 110) (fun k x b => .inl (b ++ encCmp x))
    (fun k b o => ⟨[(1, .ptr H.length 0), (4, T b), (5, I k)], [], .cells (r.c.map .g) :: o⟩) (fun b o => (.exit 0, ⟨[(1, .ptr H.length 0), (4, T b), (5, I r.iff.l.length), (61, B false)], [], .cells (r.c.map .g) :: o⟩)) (fun _ o => (.ret, ⟨[], [], o⟩)) (by simp) (by simp) (fun k x b o hk hx hy hi => ?_) (fun b o _ => by delta L42_0; simp -implicitDefEqProofs [Req.c]) b [] (by simpa using hb)
  · obtain ⟨o', hw⟩ := hw
    refine ⟨o', ?_⟩
    have key : ∀ (l : List Cmp) (k : Nat) (b : Bs), runG (γ := Unit) (fun k (x : Cmp) b => .inl (b ++ encCmp x)) k l b = .inl (b ++ (l.map encCmp).flatten) := by
      intro l
      induction l with
      | nil => intro k b; simp [runG]
      | cons x l ih => intro k b; simp only [runG, ih]; simp
    rw [key] at hw
    have e0 : ((0 : Nat) : Int) = 0 := rfl
    simp only [e0] at hw
    rw [hw]
    rfl
  · have hok := h.i2 x (List.mem_of_getElem? hx)
    have hlen := encCmp_len hok
    have hl4 := h.i1
    have e2 := wrap_succ hk (by omega)
    refine ⟨by simp; omega, o ++ [.cells (x.c.map .g)], ?_⟩
    clear hx
    delta L42_0
    obtain ⟨⟨h1, h2⟩, h3, h4, h5, h6, h7, h8⟩ := cmpOk_iff.1 hok
    obtain ⟨b1, b2, b3, b4, b5, b6, b7, b8, b9, b10, bi, bt, be⟩ := r
    simp only at hk hy e2 hl4 ⊢
    cases bi with
    | nil => simp at hk
    | of l =>
      simp only [Sl.l_of] at hk hy e2 hl4 ⊢
      unfold encCmp at hlen ⊢
      have p1 := putS_ev x.key (by omega)
      have p2 := putN_ev x.what (by omega) (by omega)
      have p3 := putN_ev x.how (by omega) (by omega)
      have p4 := putN_ev x.n (by omega) (by omega)
      have p5 := putS_ev x.value (by omega)
      generalize encS x.key = v1 at p1 hlen ⊢
      generalize encN x.what = v2 at p2 hlen ⊢
      generalize encN x.how = v3 at p3 hlen ⊢
      generalize encN x.n = v4 at p4 hlen ⊢
      generalize encS x.value = v5 at p5 hlen ⊢
      simp only [List.length_append] at hlen
      have q1 : b.length + v1.length ≤ 9223372036854775807 := by omega
      have q2 : b.length + v1.length + v2.length ≤ 9223372036854775807 := by omega
      have q3 : b.length + (v1.length + v2.length) + v3.length ≤ 9223372036854775807 := by omega
      have q4 : b.length + (v1.length + (v2.length + v3.length)) + v4.length ≤ 9223372036854775807 := by omega
      have q5 : b.length + (v1.length + (v2.length + (v3.length + v4.length))) + v5.length ≤ 9223372036854775807 := by omega
      simp -implicitDefEqProofs [hk, hy, Req.c, Cmp.c, p1, p2, p3, p4, p5, e2, q1, q2, q3, q4, q5]
theorem Ask2_ev (r : Req) (w : RL r) (H : List Blk) : EvF tab 42 [A r.c] H = some ⟨.tup (if reqOk r = true then [T (encReq r), B true] else [T [], B false]), [], []⟩ := by
  have hm := fun H => MayAsk2_ev r w H
  refine EvF_walk t42 (by simp) ?_
  cases hok : reqOk r
  · rw [hok] at hm
    obtain ⟨kind, who, seq, once, key, value, lease, rev, ttl, token, iff, thn, els⟩ := r
    simp only [A, Req.c, List.map_cons, List.map_nil] at hm
    simp -implicitDefEqProofs [A, Req.c, hm]
  · rw [hok] at hm
    have h := reqOk_iff hok
    have hd := encHead_len h
    obtain ⟨o', hw⟩ := Ask2_loop r h (encHead r) hd H
    have c1 := encCmps_len h.i1 h.i2
    obtain ⟨j1, j2⟩ := mutsOk_iff.1 h.m1
    obtain ⟨j3, j4⟩ := mutsOk_iff.1 h.m2
    have c2 := encMuts_len j1 j2
    have c3 := encMuts_len j3 j4
    have m1 := putMuts_ev r.thn h.m1
    have m2 := putMuts_ev r.els h.m2
    have p1 := putN_ev r.kind (by have := h.k1; omega) (by have := h.k2; omega)
    have p2 := putN_ev r.who h.n1.1 (by have := h.n1; omega)
    have p3 := putN_ev r.seq h.n2.1 (by have := h.n2; omega)
    have p4 := putB_ev r.once
    have p5 := putS_ev r.key (by have := h.t; omega)
    have p6 := putS_ev r.value (by have := h.t; omega)
    have p7 := putN_ev r.lease h.n3.1 (by have := h.n3; omega)
    have p8 := putN_ev r.rev h.n4.1 (by have := h.n4; omega)
    have p9 := putN_ev r.ttl h.n5.1 (by have := h.n5; omega)
    have p10 := putN_ev r.token h.n6.1 (by have := h.n6; omega)
    have p11 := putN_ev (r.iff.l.length : Int) (by omega) (by have := h.i1; omega)
    unfold encReq
    have eh : encHead r = [1] ++ encN r.kind ++ encN r.who ++ encN r.seq ++ encB r.once ++ encS r.key ++ encS r.value ++ encN r.lease ++ encN r.rev ++ encN r.ttl ++ encN r.token ++ encN r.iff.l.length := rfl
    obtain ⟨kind, who, seq, once, key, value, lease, rev, ttl, token, iff, thn, els⟩ := r
    simp only at hw c1 c2 c3 m1 m2 p1 p2 p3 p4 p5 p6 p7 p8 p9 p10 p11 eh ⊢
    rw [eh] at hd
    simp only [Req.c, List.map_cons, List.map_nil] at hw
    simp only [A, Req.c, List.map_cons, List.map_nil] at hm
    generalize encMuts thn.l = v13 at m1 c2 ⊢
    generalize encMuts els.l = v14 at m2 c3 ⊢
    generalize (iff.l.map encCmp).flatten = v12 at hw c1 ⊢
    rw [eh] at hw ⊢
    generalize encN kind = v1 at p1 hd hw ⊢
    generalize encN who = v2 at p2 hd hw ⊢
    generalize encN seq = v3 at p3 hd hw ⊢
    generalize encB once = v4 at p4 hd hw ⊢
    generalize encS key = v5 at p5 hd hw ⊢
    generalize encS value = v6 at p6 hd hw ⊢
    generalize encN lease = v7 at p7 hd hw ⊢
    generalize encN rev = v8 at p8 hd hw ⊢
    generalize encN ttl = v9 at p9 hd hw ⊢
    generalize encN token = v10 at p10 hd hw ⊢
    generalize encN (iff.l.length : Int) = v11 at p11 hd hw ⊢
    simp only [List.length_append, List.length_cons, List.length_nil] at hd
    simp only [List.append_assoc, List.cons_append, List.nil_append] at hw ⊢
    simp -implicitDefEqProofs [A, Req.c, hm, p1, p2, p3, p4, p5, p6, p7, p8, p9, p10, p11, m1, m2, hw]
    omega
end Go.Proofs.YtenndgooepdmiaaGreatDoor
end
section
namespace Go.Proofs.YtenndgooepdmiaaGreatDoor
open Go Go.AM Go.Proofs
set_option maxRecDepth 20000
set_option maxHeartbeats 1000000
set_option linter.unusedSimpArgs false
set_option linter.unusedVariables false
theorem Wr.app {H : List Blk} {fr : Bool} {p q g : Nat} {s : Bs} (w : Wr H fr p q g s) (O : List Blk) : Wr (H ++ O) fr p q g s := by
  obtain ⟨h1, h2, h3⟩ := w.lt
  exact ⟨by rw [List.getElem?_append_left h1]; exact w.hp, by rw [List.getElem?_append_left h2]; exact w.hq⟩
theorem txt_ok {l : List Bs} (hl : l.length ≤ 9223372036854775807) : True := trivial
theorem encT2 (a b : Bs) : encT [a, b] = encS a ++ encS b := by simp [encT]
theorem encT1 (a : Bs) : encT [a] = encS a := by simp [encT]
theorem muts_step {H : List Blk} {fr : Bool} {p q g g0 : Nat} {s s0 : Bs} (w : Wr H fr p q g0 s0) (l : List Mut) (k : Nat) (hk : k < l.length) (hl : l.length ≤ 4) (hok : mutOk l[k] = true) (hr : s.length ≤ 100000000) (o : List Blk) :
    kpN [0, 11, 12, 13] (evCode (EvF tab) H L28_0 ⟨[(0, .ptr p 0), (11, .g (.sl 4 (l.map Mut.c))), (12, I l.length), (13, I k)], mPQ fr p q g s, o⟩) =
      some (.normal, ⟨[(0, .ptr p 0), (11, .g (.sl 4 (l.map Mut.c))), (12, I l.length), (13, I (k + 1 : Nat))], mPQ fr p q (g + 1 + gT [l[k].key, l[k].value] + 1) (s ++ encMut l[k]), o ++ [.cells (l[k].c.map .g)]⟩) := by
  obtain ⟨hpl, hql, hne⟩ := w.lt
  have e2 := wrap_succ hk (by omega : l.length ≤ 9223372036854775807)
  obtain ⟨x, ex⟩ : ∃ x, l[k] = x := ⟨_, rfl⟩
  rw [ex] at hok ⊢
  have hlen := encMut_len hok
  obtain ⟨⟨h1, h2⟩, h3, h4⟩ := mutOk_iff.1 hok
  have hlx : ∀ y ∈ [x.lease], 0 ≤ y ∧ y ≤ 9223372036854775807 := fun y hy => by rw [List.mem_singleton.1 hy]; omega
  have b1 := b_ev ((w.set1 g s).app (o ++ [.cells (x.c.map .g)])) x.gone (by omega)
  have b2 := b_ev ((w.set2 g s).app (o ++ [.cells (x.c.map .g)])) x.gone (by omega)
  have t1 := t_ev ((w.set1 (g + 1) (s ++ encB x.gone)).app (o ++ [.cells (x.c.map .g)])) [x.key, x.value] (by simp) (by simp) (by
    rw [encT2]; simp only [encMut, List.length_append] at hlen ⊢; omega)
  have t2 := t_ev ((w.set2 (g + 1) (s ++ encB x.gone)).app (o ++ [.cells (x.c.map .g)])) [x.key, x.value] (by simp) (by simp) (by
    rw [encT2]; simp only [encMut, List.length_append] at hlen ⊢; omega)
  rw [encT2] at t1 t2
  have n1 := n_ev ((w.set1 (g + 1 + gT [x.key, x.value]) (s ++ encB x.gone ++ (encS x.key ++ encS x.value))).app (o ++ [.cells (x.c.map .g)])) [x.lease] (by simp) hlx (by simp) (by
    rw [encL1]; simp only [encMut, List.length_append] at hlen ⊢; omega)
  have n2 := n_ev ((w.set2 (g + 1 + gT [x.key, x.value]) (s ++ encB x.gone ++ (encS x.key ++ encS x.value))).app (o ++ [.cells (x.c.map .g)])) [x.lease] (by simp) hlx (by simp) (by
    rw [encL1]; simp only [encMut, List.length_append] at hlen ⊢; omega)
  rw [encL1] at n1 n2
  unfold encMut
  generalize gT [x.key, x.value] = gk at t1 t2 n1 n2 ⊢
  generalize encB x.gone = v1 at b1 b2 t1 t2 n1 n2 ⊢
  generalize encS x.key = v2 at t1 t2 n1 n2 ⊢
  generalize encS x.value = v3 at t1 t2 n1 n2 ⊢
  generalize encN x.lease = v4 at n1 n2 ⊢
  simp only [List.append_assoc] at t1 t2 n1 n2 ⊢
  simp only [ints, txts, Mut.c, List.map_cons, List.map_nil, List.length_cons, List.length_nil, Nat.zero_add] at b1 b2 t1 t2 n1 n2 ⊢
  delta L28_0
  cases fr
  · simp -implicitDefEqProofs [mPQ, hk, ex, Mut.c, chunk, b1, t1, n1, hpl, hql, hne, Ne.symm hne, setB_old, updM, e2]
  · simp -implicitDefEqProofs [mPQ, hk, ex, Mut.c, chunk, b2, t2, n2, hpl, hql, hne, Ne.symm hne, setB_old, updM, e2]
theorem mPQ_lt1 {n p q g : Nat} {s : Bs} {fr : Bool} (h1 : p < n) (h2 : q < n) : ((mPQ fr p q g s).all fun x => x.2.lt1 n) = true := by cases fr <;> simp [mPQ, h1, h2]
def stM (a : Nat × Bs) (x : Mut) : Nat × Bs := (a.1 + 1 + gT [x.key, x.value] + 1, a.2 ++ encMut x)
theorem foldM : ∀ (l : List Mut) (a : Nat × Bs), (l.foldl stM a).2 = a.2 ++ (l.map encMut).flatten ∧ a.1 ≤ (l.foldl stM a).1
  | [], a => by simp
  | x :: l, a => by
    obtain ⟨h1, h2⟩ := foldM l (stM a x)
    simp only [List.foldl_cons, h1]
    refine ⟨by simp [stM], ?_⟩
    have : a.1 ≤ (stM a x).1 := by simp only [stM]; omega
    omega
theorem muts_loop {H : List Blk} {fr : Bool} {p q g g0 : Nat} {s s0 : Bs} (w : Wr H fr p q g0 s0) (l : List Mut) (hl : l.length ≤ 4) (hok : ∀ x ∈ l, mutOk x = true) (hr : s.length ≤ 90000000) :
    ∃ o', loopE (EvF tab) H L28_0 [0, 11, 12, 13] ⟨[(0, .ptr p 0), (11, .g (.sl 4 (l.map Mut.c))), (12, I l.length), (13, I 0)], mPQ fr p q g s, []⟩ =
      some (.exit 0, ⟨[(0, .ptr p 0), (11, .g (.sl 4 (l.map Mut.c))), (12, I l.length), (13, I l.length), (14, B false)], mPQ fr p q (l.foldl stM (g, s)).1 (s ++ (l.map encMut).flatten), o'⟩) := by
  have hw := loop_runJ (E := EvF tab) (h := H) (c := L28_0) (lv := [0, 11, 12, 13]) (l := l) (β := Nat × Bs) (γ := Unit) (fun k b => b.2.length ≤ 90000000 + k * 100) (fun k x b => .inl (stM b x))
    (fun k b o => ⟨[(0, .ptr p 0), (11, .g (.sl 4 (l.map Mut.c))), (12, I l.length), (13, I k)], mPQ fr p q b.1 b.2, o⟩) (fun b o => (.exit 0, ⟨[(0, .ptr p 0), (11, .g (.sl 4 (l.map Mut.c))), (12, I l.length), (13, I l.length), (14, B false)], mPQ fr p q b.1 b.2, o⟩)) (fun _ o => (.ret, ⟨[], [], o⟩)) (by simp) (by simp) (fun k x b o hk hx hy hi => ?_) (fun b o _ => by delta L28_0; simp -implicitDefEqProofs) (g, s) [] (by simpa using hr)
  · obtain ⟨o', hw⟩ := hw
    refine ⟨o', ?_⟩
    have key : ∀ (l : List Mut) (k : Nat) (b : Nat × Bs), runG (γ := Unit) (fun k (x : Mut) b => .inl (stM b x)) k l b = .inl (l.foldl stM b) := by
      intro l
      induction l with
      | nil => intro k b; simp [runG]
      | cons x l ih => intro k b; simp only [runG, ih]; simp
    rw [key] at hw
    have e0 : ((0 : Nat) : Int) = 0 := rfl
    simp only [e0, endJ] at hw
    rw [hw, (foldM l (g, s)).1]
  · have hm := hok x (List.mem_of_getElem? hx)
    have hlen := encMut_len hm
    subst hy
    refine ⟨by simp [stM]; omega, _, muts_step w l k hk hl hm (by omega) o⟩
theorem muts_ev {H : List Blk} {fr : Bool} {p q g : Nat} {s : Bs} (w : Wr H fr p q g s) (sl : Sl Mut) (h : mutsOk sl = true) (hr : s.length ≤ 10000000) :
    ∃ g', g < g' ∧ EvF tab 28 [.ptr p 0, .g (Muts.g sl)] H = some ⟨.tup [], mPQ fr p q g' (s ++ encMuts sl.l), []⟩ := by
  obtain ⟨hpl, hql, hne⟩ := w.lt
  obtain ⟨h1, h2⟩ := mutsOk_iff.1 h
  have hle := encN_len (sl.l.length : Int) (by omega)
  have hn := n_ev w [(sl.l.length : Int)] (by simp) (fun y hy => by rw [List.mem_singleton.1 hy]; omega) (by simp) (by rw [encL1]; omega)
  rw [encL1] at hn
  simp only [ints, List.map_cons, List.map_nil, List.length_cons, List.length_nil, Nat.zero_add] at hn
  cases sl with
  | nil =>
    refine ⟨g + 1, by omega, ?_⟩
    refine EvF_walk t28 (by simp) ?_
    have e : encMuts (Sl.nil : Sl Mut).l = encN 0 := by simp [encMuts]
    have e0 : (((Sl.nil : Sl Mut).l.length : Nat) : Int) = 0 := rfl
    rw [e0] at hn
    rw [e]
    have hlt := @mPQ_lt1 H.length p q (g + 1) (s ++ encN 0) fr hpl hql
    generalize s ++ encN 0 = v at hn hlt ⊢
    have hw : loopE (EvF tab) H L28_0 [0, 11, 12, 13] ⟨[(0, .ptr p 0), (11, .g .nsl), (12, I 0), (13, I 0)], mPQ fr p q (g + 1) v, []⟩ = some (.exit 0, ⟨[(0, .ptr p 0), (11, .g .nsl), (12, I 0), (13, I 0), (14, B false)], mPQ fr p q (g + 1) v, []⟩) := by
      refine loopE_out _ _ _ _ _ _ (by simp) ?_
      delta L28_0
      simp -implicitDefEqProofs
    cases fr <;> simp only [mPQ, Bool.not_false, Bool.not_true, if_true, if_false, Bool.false_eq_true] at hn hw hlt ⊢ <;> simp -implicitDefEqProofs [lenV, hn, chunk, setB_old, hpl, hql, hne, Ne.symm hne, updM, hw]
  | of l =>
    simp only [Sl.l_of] at h1 h2 hn hle ⊢
    obtain ⟨o', hw⟩ := muts_loop (g := g + 1) (s := s ++ encN l.length) w l h1 h2 (by simp; omega)
    refine ⟨(l.foldl stM (g + 1, s ++ encN l.length)).1, by have := (foldM l (g + 1, s ++ encN l.length)).2; simp only at this; omega, ?_⟩
    refine EvF_walk t28 (by simp) ?_
    have e : s ++ encMuts l = s ++ encN l.length ++ (l.map encMut).flatten := by simp [encMuts]
    rw [e]
    generalize (l.foldl stM (g + 1, s ++ encN l.length)).1 = g2 at hw ⊢
    generalize s ++ encN (l.length : Int) ++ (l.map encMut).flatten = v2 at hw ⊢
    generalize s ++ encN (l.length : Int) = v at hn hw
    cases fr <;> simp only [mPQ, Bool.not_false, Bool.not_true, if_true, if_false, Bool.false_eq_true] at hn hw ⊢ <;> simp -implicitDefEqProofs [lenV, hn, chunk, setB_old, hpl, hql, hne, Ne.symm hne, updM, hw]
end Go.Proofs.YtenndgooepdmiaaGreatDoor
end
section
namespace Go.Proofs.YtenndgooepdmiaaGreatDoor
open Go Go.AM Go.Proofs
set_option maxRecDepth 20000
set_option maxHeartbeats 1000000
set_option linter.unusedSimpArgs false
set_option linter.unusedVariables false
theorem Wr.own (H : List Blk) (B0 : Blk) (fr : Bool) (g : Nat) (s : Bs) (o : List Blk) : Wr (H ++ B0 :: wR g s :: wB (if fr = true then .g .nptr else .ptr (H.length + 2) 0) (H.length + 1) g s :: o) fr (H.length + 2) (H.length + 1) g s :=
  ⟨by rw [List.getElem?_append_right (by omega)]; simp, by rw [List.getElem?_append_right (by omega)]; simp⟩
theorem Wr.ownF (H : List Blk) (B0 : Blk) (g : Nat) (s : Bs) (o : List Blk) : Wr (H ++ B0 :: wR g s :: wB (.ptr (H.length + 2) 0) (H.length + 1) g s :: o) false (H.length + 2) (H.length + 1) g s := Wr.own H B0 false g s o
theorem Wr.ownT (H : List Blk) (B0 : Blk) (g : Nat) (s : Bs) (o : List Blk) : Wr (H ++ B0 :: wR g s :: wB (.g .nptr) (H.length + 1) g s :: o) true (H.length + 2) (H.length + 1) g s := Wr.own H B0 true g s o
theorem encL3 (a b c : Int) : encL [a, b, c] = encN a ++ (encN b ++ encN c) := by simp [encL]
theorem encL4 (a b c d : Int) : encL [a, b, c, d] = encN a ++ (encN b ++ (encN c ++ encN d)) := by simp [encL]
theorem encL5 (a b c d e : Int) : encL [a, b, c, d, e] = encN a ++ (encN b ++ (encN c ++ (encN d ++ encN e))) := by simp [encL]
theorem ints_ok {l : List Int} (h : ∀ x ∈ l, 0 ≤ x ∧ x ≤ 1099511627775) : ∀ x ∈ l, 0 ≤ x ∧ x ≤ 9223372036854775807 := fun x hx => by have := h x hx; omega
theorem cmp_step {H : List Blk} (B0 : Blk) (l : List Cmp) (k : Nat) (hk : k < l.length) (hl : l.length ≤ 4) (hok : cmpOk l[k] = true) (g : Nat) (s : Bs) (hr : s.length ≤ 100000000) (o : List Blk) :
    kpN [1, 4, 43, 44, 45] (evCode (EvF tab) H L14_0 ⟨[(1, .ptr H.length 0), (4, .ptr (H.length + 2) 0), (43, .g (.sl 5 (l.map Cmp.c))), (44, I l.length), (45, I k)], [], B0 :: wR g s :: wB (.ptr (H.length + 2) 0) (H.length + 1) g s :: o⟩) =
      some (.normal, ⟨[(1, .ptr H.length 0), (4, .ptr (H.length + 2) 0), (43, .g (.sl 5 (l.map Cmp.c))), (44, I l.length), (45, I (k + 1 : Nat))], [], B0 :: wR (g + gT [l[k].key] + 3 + gT [l[k].value]) (s ++ encCmp l[k]) :: wB (.ptr (H.length + 2) 0) (H.length + 1) (g + gT [l[k].key] + 3 + gT [l[k].value]) (s ++ encCmp l[k]) :: (o ++ [.cells (l[k].c.map .g)])⟩) := by
  have e2 := wrap_succ hk (by omega : l.length ≤ 9223372036854775807)
  obtain ⟨x, ex⟩ : ∃ x, l[k] = x := ⟨_, rfl⟩
  rw [ex] at hok ⊢
  have hlen := encCmp_len hok
  obtain ⟨⟨h1, h2⟩, h3, h4, h5, h6, h7, h8⟩ := cmpOk_iff.1 hok
  have t1 := t_ev (Wr.ownF H B0 g s (o ++ [.cells (x.c.map .g)])) [x.key] (by simp) (by simp) (by
    rw [encT1]; simp only [encCmp, List.length_append] at hlen ⊢; omega)
  have n1 := n_ev (Wr.ownF H B0 (g + gT [x.key]) (s ++ encT [x.key]) (o ++ [.cells (x.c.map .g)])) [x.what, x.how, x.n] (by simp) (fun y hy => by simp at hy; rcases hy with rfl | rfl | rfl <;> omega) (by simp) (by
    rw [encT1, encL3]; simp only [encCmp, List.length_append] at hlen ⊢; omega)
  have t2 := t_ev (Wr.ownF H B0 (g + gT [x.key] + 3) (s ++ encT [x.key] ++ encL [x.what, x.how, x.n]) (o ++ [.cells (x.c.map .g)])) [x.value] (by simp) (by simp) (by
    rw [encT1, encL3, encT1]; simp only [encCmp, List.length_append] at hlen ⊢; omega)
  rw [encT1] at t1 n1
  rw [encL3] at n1 t2
  rw [encT1, encT1] at t2
  unfold encCmp
  generalize gT [x.key] = g1 at t1 t2 n1 ⊢
  generalize gT [x.value] = g2 at t1 t2 n1 ⊢
  generalize encS x.key = v1 at t1 t2 n1 ⊢
  generalize encN x.what = v2 at t1 t2 n1 ⊢
  generalize encN x.how = v3 at t1 t2 n1 ⊢
  generalize encN x.n = v4 at t1 t2 n1 ⊢
  generalize encS x.value = v5 at t1 t2 n1 ⊢
  simp only [List.append_assoc] at t1 t2 n1 ⊢
  simp only [ints, txts, Cmp.c, List.map_cons, List.map_nil, List.length_cons, List.length_nil, Nat.zero_add] at t1 t2 n1 ⊢
  delta L14_0
  simp -implicitDefEqProofs [mPQ, hk, ex, Cmp.c, chunk, t1, n1, t2, e2]
def stC (a : Nat × Bs) (x : Cmp) : Nat × Bs := (a.1 + gT [x.key] + 3 + gT [x.value], a.2 ++ encCmp x)
theorem foldC : ∀ (l : List Cmp) (a : Nat × Bs), (l.foldl stC a).2 = a.2 ++ (l.map encCmp).flatten ∧ a.1 ≤ (l.foldl stC a).1
  | [], a => by simp
  | x :: l, a => by
    obtain ⟨h1, h2⟩ := foldC l (stC a x)
    simp only [List.foldl_cons, h1]
    refine ⟨by simp [stC], ?_⟩
    have : a.1 ≤ (stC a x).1 := by simp only [stC]; omega
    omega
theorem cmp_loop {H : List Blk} (B0 : Blk) (sl : Sl Cmp) (hl : sl.l.length ≤ 4) (hok : ∀ x ∈ sl.l, cmpOk x = true) (g : Nat) (s : Bs) (hr : s.length ≤ 90000000) :
    ∃ o' g', g ≤ g' ∧ loopE (EvF tab) H L14_0 [1, 4, 43, 44, 45] ⟨[(1, .ptr H.length 0), (4, .ptr (H.length + 2) 0), (43, .g (Cmps.g sl)), (44, I sl.l.length), (45, I 0)], [], [B0, wR g s, wB (.ptr (H.length + 2) 0) (H.length + 1) g s]⟩ =
      some (.exit 0, ⟨[(1, .ptr H.length 0), (4, .ptr (H.length + 2) 0), (43, .g (Cmps.g sl)), (44, I sl.l.length), (45, I sl.l.length), (46, B false)], [], B0 :: wR g' (s ++ (sl.l.map encCmp).flatten) :: wB (.ptr (H.length + 2) 0) (H.length + 1) g' (s ++ (sl.l.map encCmp).flatten) :: o'⟩) := by
  cases sl with
  | nil =>
    refine ⟨[], g, Nat.le_refl _, ?_⟩
    refine loopE_out _ _ _ _ _ _ (by simp) ?_
    delta L14_0
    simp -implicitDefEqProofs
  | of l =>
    simp only [Sl.l_of] at hl hok ⊢
    have hw := loop_runJ (E := EvF tab) (h := H) (c := L14_0) (lv := [1, 4, 43, 44, 45]) (l := l) (β := Nat × Bs) (γ := Unit) (fun k b => b.2.length ≤ 90000000 + k * 110) (fun k x b => .inl (stC b x))
      (fun k b o => ⟨[(1, .ptr H.length 0), (4, .ptr (H.length + 2) 0), (43, .g (.sl 5 (l.map Cmp.c))), (44, I l.length), (45, I k)], [], B0 :: wR b.1 b.2 :: wB (.ptr (H.length + 2) 0) (H.length + 1) b.1 b.2 :: o⟩)
      (fun b o => (.exit 0, ⟨[(1, .ptr H.length 0), (4, .ptr (H.length + 2) 0), (43, .g (.sl 5 (l.map Cmp.c))), (44, I l.length), (45, I l.length), (46, B false)], [], B0 :: wR b.1 b.2 :: wB (.ptr (H.length + 2) 0) (H.length + 1) b.1 b.2 :: o⟩)) (fun _ o => (.ret, ⟨[], [], o⟩)) (by simp) (by simp) (fun k x b o hk hx hy hi => ?_) (fun b o _ => by delta L14_0; simp -implicitDefEqProofs) (g, s) [] (by simpa using hr)
    · obtain ⟨o', hw⟩ := hw
      refine ⟨o', _, (foldC l (g, s)).2, ?_⟩
      have key : ∀ (l : List Cmp) (k : Nat) (b : Nat × Bs), runG (γ := Unit) (fun k (x : Cmp) b => .inl (stC b x)) k l b = .inl (l.foldl stC b) := by
        intro l
        induction l with
        | nil => intro k b; simp [runG]
        | cons x l ih => intro k b; simp only [runG, ih]; simp
      rw [key] at hw
      have e0 : ((0 : Nat) : Int) = 0 := rfl
      simp only [e0, endJ] at hw
      rw [(foldC l (g, s)).1] at hw
      exact hw
    · have hm := hok x (List.mem_of_getElem? hx)
      have hlen := encCmp_len hm
      subst hy
      refine ⟨by simp [stC]; omega, _, cmp_step B0 l k hk hl hm b.1 b.2 (by omega) o⟩
theorem Ask_ev (r : Req) (w : RL r) (H : List Blk) : EvF tab 14 [A r.c] H = some ⟨.tup (if reqOk r = true then [T (encReq r), B true] else [T [], B false]), [], []⟩ := by
  have hm := fun H => MayAsk_ev r w H
  refine EvF_walk t14 (by simp) ?_
  cases hok : reqOk r
  · rw [hok] at hm
    obtain ⟨kind, who, seq, once, key, value, lease, rev, ttl, token, iff, thn, els⟩ := r
    simp only [A, Req.c, List.map_cons, List.map_nil] at hm
    simp -implicitDefEqProofs [A, Req.c, hm]
  · rw [hok] at hm
    have h := reqOk_iff hok
    have hd := encHead_len h
    have c1 := encCmps_len h.i1 h.i2
    obtain ⟨j1, j2⟩ := mutsOk_iff.1 h.m1
    obtain ⟨j3, j4⟩ := mutsOk_iff.1 h.m2
    have c2 := encMuts_len j1 j2
    have c3 := encMuts_len j3 j4
    obtain ⟨kk1, kk2, ht, n1, n2, n3, n4, n5, n6, i1, i2, m1, m2⟩ := h
    unfold encReq
    have eh : encHead r = [1] ++ encN r.kind ++ encN r.who ++ encN r.seq ++ encB r.once ++ encS r.key ++ encS r.value ++ encN r.lease ++ encN r.rev ++ encN r.ttl ++ encN r.token ++ encN r.iff.l.length := rfl
    obtain ⟨kind, who, seq, once, key, value, lease, rev, ttl, token, iff, thn, els⟩ := r
    simp only at n1 n2 n3 n4 n5 n6 i1 i2 m1 m2 ht kk1 kk2 c1 c2 c3 j1 j3 eh ⊢
    rw [eh] at hd ⊢
    simp only [List.length_append, List.length_cons, List.length_nil] at hd
    simp only [A, Req.c, List.map_cons, List.map_nil] at hm
    obtain ⟨B0, eB⟩ : ∃ B0 : Blk, B0 = .cells (List.map AV.g [.int .i64 kind, .int .i64 who, .int .i64 seq, .bool once, .str key, .str value, .int .i64 lease, .int .i64 rev, .int .i64 ttl, .int .i64 token, Cmps.g iff, Muts.g thn, Muts.g els]) := ⟨_, rfl⟩
    have a1 := n_ev (Wr.ownT H B0 1 [] []) [1, kind, who, seq] (by simp) (ints_ok (fun y hy => by simp at hy; rcases hy with rfl | rfl | rfl | rfl <;> omega)) (by simp) (by rw [encL4, encN1]; simp only [List.length_append, List.length_cons, List.length_nil]; omega)
    have a2 := b_ev (Wr.ownF H B0 5 (encL [1, kind, who, seq]) []) once (by rw [encL4, encN1]; simp only [List.length_append, List.length_cons, List.length_nil]; omega)
    have a3 := t_ev (Wr.ownF H B0 6 (encL [1, kind, who, seq] ++ encB once) []) [key, value] (by simp) (by simp) (by rw [encL4, encN1, encT2]; simp only [List.length_append, List.length_cons, List.length_nil]; omega)
    have a4 := n_ev (Wr.ownF H B0 (6 + gT [key, value]) (encL [1, kind, who, seq] ++ encB once ++ encT [key, value]) []) [lease, rev, ttl, token, (iff.l.length : Int)] (by simp) (ints_ok (fun y hy => by simp at hy; rcases hy with rfl | rfl | rfl | rfl | rfl <;> omega)) (by simp) (by rw [encL4, encN1, encT2, encL5]; simp only [List.length_append, List.length_cons, List.length_nil]; omega)
    obtain ⟨o', g2, hg2, hw⟩ := cmp_loop (H := H) B0 iff i1 i2 (6 + gT [key, value] + 5) (encL [1, kind, who, seq] ++ encB once ++ encT [key, value] ++ encL [lease, rev, ttl, token, (iff.l.length : Int)]) (by rw [encL4, encN1, encT2, encL5]; simp only [List.length_append, List.length_cons, List.length_nil]; omega)
    obtain ⟨g3, hg3, a5⟩ := muts_ev (Wr.ownF H B0 g2 (encL [1, kind, who, seq] ++ encB once ++ encT [key, value] ++ encL [lease, rev, ttl, token, (iff.l.length : Int)] ++ (iff.l.map encCmp).flatten) o') thn m1 (by rw [encL4, encN1, encT2, encL5]; simp only [List.length_append, List.length_cons, List.length_nil]; omega)
    obtain ⟨g4, hg4, a6⟩ := muts_ev (Wr.ownF H B0 g3 (encL [1, kind, who, seq] ++ encB once ++ encT [key, value] ++ encL [lease, rev, ttl, token, (iff.l.length : Int)] ++ (iff.l.map encCmp).flatten ++ encMuts thn.l) o') els m2 (by rw [encL4, encN1, encT2, encL5]; simp only [List.length_append, List.length_cons, List.length_nil]; omega)
    have a7 := String_ev (Wr.ownF H B0 g4 (encL [1, kind, who, seq] ++ encB once ++ encT [key, value] ++ encL [lease, rev, ttl, token, (iff.l.length : Int)] ++ (iff.l.map encCmp).flatten ++ encMuts thn.l ++ encMuts els.l) o') (by rw [encL4, encN1]; simp) (by rw [encL4, encN1, encT2, encL5]; simp only [List.length_append, List.length_cons, List.length_nil]; omega) (by omega)
    rw [encL4, encN1] at a1 a2 a3 a4 a5 a6 a7 hw
    rw [encT2] at a3 a4 a5 a6 a7 hw
    rw [encL5] at a4 a5 a6 a7 hw
    generalize gT [key, value] = g1 at a1 a2 a3 a4 a5 a6 a7 hw
    generalize encMuts thn.l = v13 at a5 a6 a7 ⊢
    generalize encMuts els.l = v14 at a6 a7 ⊢
    generalize (iff.l.map encCmp).flatten = v12 at hw a5 a6 a7 ⊢
    generalize encN kind = v1 at a1 a2 a3 a4 a5 a6 a7 hw ⊢
    generalize encN who = v2 at a1 a2 a3 a4 a5 a6 a7 hw ⊢
    generalize encN seq = v3 at a1 a2 a3 a4 a5 a6 a7 hw ⊢
    generalize encB once = v4 at a1 a2 a3 a4 a5 a6 a7 hw ⊢
    generalize encS key = v5 at a1 a2 a3 a4 a5 a6 a7 hw ⊢
    generalize encS value = v6 at a1 a2 a3 a4 a5 a6 a7 hw ⊢
    generalize encN lease = v7 at a1 a2 a3 a4 a5 a6 a7 hw ⊢
    generalize encN rev = v8 at a1 a2 a3 a4 a5 a6 a7 hw ⊢
    generalize encN ttl = v9 at a1 a2 a3 a4 a5 a6 a7 hw ⊢
    generalize encN token = v10 at a1 a2 a3 a4 a5 a6 a7 hw ⊢
    generalize encN (iff.l.length : Int) = v11 at a1 a2 a3 a4 a5 a6 a7 hw ⊢
    simp only [List.append_assoc, List.cons_append, List.nil_append] at a1 a2 a3 a4 a5 a6 a7 hw ⊢
    simp only [ints, txts, List.map_cons, List.map_nil, List.length_cons, List.length_nil, Nat.zero_add] at a1 a2 a3 a4 a5 a6 a7 hw ⊢
    have z1 : (Blk.trow 5 1 1 [] : Blk) = wR 1 [] := rfl
    have z2 : ∀ q, (Blk.bld 62 [.g .nptr, .ms q 1 1 0 0] : Blk) = wB (.g .nptr) q 1 [] := fun _ => rfl
    subst eB
    simp only [List.map_cons, List.map_nil] at a1 a2 a3 a4 a5 a6 a7 hw
    simp -implicitDefEqProofs [A, Req.c, hm, zresT, z1, z2, a1, a2, a3, a4, a5, a6, a7, hw, mPQ, chunk]
end Go.Proofs.YtenndgooepdmiaaGreatDoor
end
section
namespace Go.Proofs.YtenndgooepdmiaaGreatDoor
open Go Go.AM Go.Proofs
set_option maxRecDepth 4000
set_option linter.unusedSimpArgs false
set_option linter.unusedVariables false
def badB (k : Nat) (b : UInt8) : Bool := (decide (k = 9) && decide (1 < b.toNat)) || (decide (0 < k) && decide (b.toNat = 0))
def readG (at_ : Int) : Nat → Nat → Bs → Nat × Int × Int
  | _, _, [] => (0, 0, 2)
  | k, a, b :: r => if badB k b = true then (0, 0, 3) else if b.toNat < 128 then (a + b.toNat % 128 * 128 ^ k, at_ + k + 1, 0) else readG at_ (k + 1) (a + b.toNat % 128 * 128 ^ k) r
def retS (x : Nat × Int × Int) : St := ⟨[(4, U x.1), (5, I x.2.1), (6, I x.2.2)], [], []⟩
def stepR (at_ : Int) (k : Nat) (b : UInt8) (a : Nat) : Nat ⊕ (Ex × St) :=
  if badB k b = true then .inr (.ret, retS (0, 0, 3)) else if b.toNat < 128 then .inr (.ret, retS (a + b.toNat % 128 * 128 ^ k, at_ + k + 1, 0)) else .inl (a + b.toNat % 128 * 128 ^ k)
theorem runR (at_ : Int) : ∀ l k a, (∃ a', runL (stepR at_) k l a = .inl a' ∧ readG at_ k a l = (0, 0, 2)) ∨ runL (stepR at_) k l a = .inr (.ret, retS (readG at_ k a l)) := by
  intro l
  induction l with
  | nil => intro k a; exact .inl ⟨a, rfl, rfl⟩
  | cons b l ih =>
    intro k a
    cases hb : badB k b
    · by_cases h : b.toNat < 128
      · right; simp only [runL, readG, stepR, hb, h, Bool.false_eq_true, if_false, if_true]
      · simp only [runL, readG, stepR, hb, h, Bool.false_eq_true, if_false]
        exact ih _ _
    · right; simp only [runL, readG, stepR, hb, if_true]
def readS (s : Bs) (at_ : Int) : Nat × Int × Int := if 0 ≤ at_ ∧ at_ ≤ s.length then readG at_ 0 0 (s.drop at_.toNat) else (0, 0, 1)
theorem stepOk {k a : Nat} {b : UInt8} (hk : k ≤ 9) (ha : a < 128 ^ k) (hb : badB k b = false) (h128 : ¬ b.toNat < 128) : k ≤ 8 ∧ a + b.toNat % 128 * 128 ^ k < 128 ^ (k + 1) := by
  have h1 : k ≤ 8 := by
    rcases Nat.lt_or_ge k 9 with h | h
    · omega
    · have : k = 9 := by omega
      subst this
      simp [badB] at hb
      omega
  refine ⟨h1, ?_⟩
  have h2 : b.toNat % 128 * 128 ^ k ≤ 127 * 128 ^ k := Nat.mul_le_mul_right _ (by omega)
  rw [Nat.pow_succ]
  omega
theorem sum_lt {k a : Nat} {b : UInt8} (hk : k ≤ 9) (ha : a < 128 ^ k) (hb : badB k b = false) : a + b.toNat % 128 * 128 ^ k < 18446744073709551616 := by
  rcases Nat.lt_or_ge k 9 with h | h
  · have h2 : b.toNat % 128 * 128 ^ k ≤ 127 * 128 ^ k := Nat.mul_le_mul_right _ (by omega)
    have h3 : 128 ^ (k + 1) ≤ 128 ^ 9 := Nat.pow_le_pow_right (by omega) (by omega)
    rw [Nat.pow_succ] at h3
    omega
  · have : k = 9 := by omega
    subst this
    have h4 : b.toNat ≤ 1 := by simp [badB] at hb; omega
    have h2 : b.toNat % 128 * 128 ^ 9 ≤ 1 * 128 ^ 9 := Nat.mul_le_mul_right _ (by omega)
    omega
theorem Read_loop (s : Bs) (at_ : Int) (h0 : 0 ≤ at_) (hlen : at_ + s.length ≤ 9223372036854775807) (H : List Blk) :
    loopE (EvF tab) H L56_0 [1, 7, 21, 22, 23] ⟨[(1, I at_), (7, U 0), (21, .g (.sl 1 (bytesG s))), (22, I s.length), (23, I 0)], [], []⟩ =
      some (endL (fun a : Nat => (.exit 0, ⟨[(1, I at_), (7, U a), (21, .g (.sl 1 (bytesG s))), (22, I s.length), (23, I s.length), (24, B false)], [], []⟩)) (runL (stepR at_) 0 s 0)) := by
  have hw := loop_run (E := EvF tab) (h := H) (c := L56_0) (lv := [1, 7, 21, 22, 23]) (l := s) (fun k a => k ≤ 9 ∧ a < 128 ^ k) (stepR at_)
    (fun k a => ⟨[(1, I at_), (7, U a), (21, .g (.sl 1 (bytesG s))), (22, I s.length), (23, I k)], [], []⟩)
    (fun a => (.exit 0, ⟨[(1, I at_), (7, U a), (21, .g (.sl 1 (bytesG s))), (22, I s.length), (23, I s.length), (24, B false)], [], []⟩)) (by simp)
    (fun k b a hk hx hy hi => ?_) (fun a hi => by delta L56_0; simp -implicitDefEqProofs) s.length 0 0 (by omega) (by omega) ⟨by omega, by simp⟩
  · simpa using hw
  · delta L56_0
    obtain ⟨h9, ha⟩ := hi
    have hb := b.toNat_lt
    have e2 := wrap_succ hk (show s.length ≤ 9223372036854775807 by omega)
    simp only [stepR]
    cases hbad : badB k b
    · simp only [Bool.false_eq_true, if_false]
      have hs := sum_lt h9 ha hbad
      have p7 : (128 : Nat) ^ k = 2 ^ (7 * k) := by rw [show (128 : Nat) = 2 ^ 7 by rfl, ← Nat.pow_mul]
      have e1 : IntKind.u64.wrap (andNotI .u8 (b.toNat : Int) 128) = ((b.toNat % 128 : Nat) : Int) := by rw [andNot_u8_128 hb, wrap_u64 (by omega) (by omega)]
      have e3 : IntKind.i64.wrap (7 * (k : Int)) = 7 * (k : Int) := wrap_i64 (by omega) (by omega)
      have e4 : min (7 * (k : Int)).toNat 64 = 7 * k := by omega
      have e5 : IntKind.u64.wrap (((b.toNat % 128 : Nat) : Int) * 2 ^ (7 * k)) = ((b.toNat % 128 * 128 ^ k : Nat) : Int) := by
        have : ((b.toNat % 128 : Nat) : Int) * 2 ^ (7 * k) = ((b.toNat % 128 * 128 ^ k : Nat) : Int) := by rw [p7]; simp
        rw [this, wrap_u64 (by omega) (by omega)]
      have e6 : orI .u64 (a : Int) ((b.toNat % 128 * 128 ^ k : Nat) : Int) = ((a + b.toNat % 128 * 128 ^ k : Nat) : Int) := by
        rw [or_u64 (by omega) (by omega), Nat.or_comm, p7, or_shift (7 * k) (by rw [← p7]; exact ha), Nat.add_comm]
      obtain ⟨v, hv⟩ : ∃ v, a + b.toNat % 128 * 128 ^ k = v := ⟨_, rfl⟩
      rw [hv] at e6 hs ⊢
      have e7 : IntKind.u64.wrap (IntKind.u64.wrap (andNotI .u8 (b.toNat : Int) 128) * 2 ^ (7 * k)) = ((b.toNat % 128 * 128 ^ k : Nat) : Int) := by rw [e1, e5]
      have e8 : orI .u64 (a : Int) (IntKind.u64.wrap (IntKind.u64.wrap (andNotI .u8 (b.toNat : Int) 128) * 2 ^ (7 * k))) = (v : Int) := by rw [e7, e6]
      have c1 : k = 9 → ¬ 1 < (b.toNat : Int) := fun h => by simp [badB, h] at hbad; omega
      have c2 : 0 < k → ¬ b.toNat = 0 := fun h => by simp [badB, h] at hbad; omega
      have g7 : ¬ 7 * (k : Int) < 0 := by omega
      have g8 : (0 : Int) ≤ 7 * (k : Int) := by omega
      have e9 : IntKind.i64.wrap (at_ + (k : Int)) = at_ + (k : Int) := wrap_i64 (by omega) (by omega)
      have e10 : IntKind.i64.wrap (at_ + (k : Int) + 1) = at_ + (k : Int) + 1 := wrap_i64 (by omega) (by omega)
      have hg : (bytesG s)[k]? = some [.int .u8 (b.toNat : Int)] := by rw [bytesG_get, hx]; rfl
      have n9 : ((k : Int) = 9) = (k = 9) := by apply propext; omega
      by_cases h128 : b.toNat < 128
      · rw [if_pos h128]
        refine ⟨by simp, ?_⟩
        have g3 : (b.toNat : Int) < 128 := by omega
        by_cases g1 : k = 9
        · have c1' := c1 (by omega)
          have c2' := c2 (by omega)
          have g2 : 0 < k := by omega
          simp -implicitDefEqProofs [hk, hg, n9, eq_true g1, c1', c2', e3, e4, e8, g7, g8, e9, e10, retS, g2, g3]
        · by_cases g2 : 0 < k
          · have c2' := c2 (by omega)
            simp -implicitDefEqProofs [hk, hg, n9, eq_false g1, c2', e3, e4, e8, g7, g8, e9, e10, retS, g2, g3]
          · simp -implicitDefEqProofs [hk, hg, n9, eq_false g1, e3, e4, e8, g7, g8, e9, e10, retS, g2, g3]
      · rw [if_neg h128]
        have hs2 := stepOk h9 ha hbad h128
        rw [hv] at hs2
        refine ⟨⟨by omega, hs2.2⟩, ?_⟩
        have g3 : ¬ (b.toNat : Int) < 128 := by omega
        by_cases g2 : 0 < k
        · have c2' := c2 (by omega)
          have g1 : ¬ k = 9 := by omega
          simp -implicitDefEqProofs [hk, hg, n9, eq_false g1, c2', e3, e4, e8, g7, g8, e2, retS, g2, g3]
        · have g1 : ¬ k = 9 := by omega
          simp -implicitDefEqProofs [hk, hg, n9, eq_false g1, e3, e4, e8, g7, g8, e2, retS, g2, g3]
    · simp only [if_true]
      refine ⟨by simp, ?_⟩
      have n9 : ((k : Int) = 9) = (k = 9) := by apply propext; omega
      have hg : (bytesG s)[k]? = some [.int .u8 (b.toNat : Int)] := by rw [bytesG_get, hx]; rfl
      by_cases g1 : k = 9
      · by_cases g4 : 1 < (b.toNat : Int)
        · simp -implicitDefEqProofs [hk, hg, n9, eq_true g1, g4, retS]
        · have g5 : (b.toNat : Int) = 0 := by simp [badB, g1] at hbad; omega
          have g2 : 0 < k := by omega
          simp -implicitDefEqProofs [hk, hg, n9, eq_true g1, g4, g5, g2, retS]
      · have g5 : (b.toNat : Int) = 0 := by simp [badB, g1] at hbad; omega
        have g2 : 0 < k := by simp [badB, g1] at hbad; omega
        simp -implicitDefEqProofs [hk, hg, n9, eq_false g1, g5, g2, retS]
theorem Read_ev (s : Bs) (at_ : Int) (hs : s.length ≤ 9223372036854775807) (H : List Blk) :
    EvF tab 56 [T s, I at_] H = some ⟨.tup [U (readS s at_).1, I (readS s at_).2.1, I (readS s at_).2.2], [], []⟩ := by
  refine EvF_walk t56 (by simp) ?_
  unfold readS
  by_cases h1 : 0 ≤ at_
  · by_cases h2 : at_ ≤ s.length
    · have hl : (s.drop at_.toNat).length = s.length - at_.toNat := by simp
      have hw := Read_loop (s.drop at_.toNat) at_ h1 (by omega) H
      have ht : List.take s.length s = s := List.take_length
      rw [if_pos ⟨h1, h2⟩]
      rcases runR at_ (s.drop at_.toNat) 0 0 with ⟨a', k1, k2⟩ | k1 <;> rw [k1] at hw
      · rw [k2]
        simp -implicitDefEqProofs [show ¬ at_ < 0 by omega, show ¬ (s.length : Int) < at_ by omega, h1, h2, ht, cutB, bnd, intOfA, bytesG_len] at hw ⊢
        simp -implicitDefEqProofs [hw, endL]
      · simp -implicitDefEqProofs [show ¬ at_ < 0 by omega, show ¬ (s.length : Int) < at_ by omega, h1, h2, ht, cutB, bnd, intOfA, bytesG_len] at hw ⊢
        simp -implicitDefEqProofs [hw, endL, retS]
    · rw [if_neg (by omega)]
      simp -implicitDefEqProofs [show ¬ at_ < 0 by omega, show (s.length : Int) < at_ by omega]
  · rw [if_neg (by omega)]
    simp -implicitDefEqProofs [show at_ < 0 by omega]
theorem Read2_loop (s : Bs) (at_ : Int) (h0 : 0 ≤ at_) (h1 : at_ ≤ s.length) (hlen : s.length ≤ 9223372036854775807) (H : List Blk) :
    loopE (EvF tab) H L57_0 [0, 1, 7, 8, 9] ⟨[(0, T s), (1, I at_), (7, U 0), (8, U 1), (9, I 0)], [], []⟩ =
      some (endL (fun a : Nat => (.ret, retS (0, 0, 2))) (runL (stepR at_) 0 (s.drop at_.toNat) 0)) := by
  have hl : (s.drop at_.toNat).length = s.length - at_.toNat := by simp
  have hw := loop_run (E := EvF tab) (h := H) (c := L57_0) (lv := [0, 1, 7, 8, 9]) (l := s.drop at_.toNat) (fun k a => k ≤ 9 ∧ a < 128 ^ k) (stepR at_)
    (fun k a => ⟨[(0, T s), (1, I at_), (7, U a), (8, U (128 ^ k : Nat)), (9, I k)], [], []⟩)
    (fun a => (.ret, retS (0, 0, 2))) (by simp)
    (fun k b a hk hx hy hi => ?_) (fun a hi => ?_) (s.drop at_.toNat).length 0 0 (by omega) (by omega) ⟨by omega, by simp⟩
  · simpa using hw
  · delta L57_0
    obtain ⟨h9, ha⟩ := hi
    have hb := b.toNat_lt
    have e2 := wrap_succ hk (show (s.drop at_.toNat).length ≤ 9223372036854775807 by omega)
    have e9 : IntKind.i64.wrap (at_ + (k : Int)) = at_ + (k : Int) := wrap_i64 (by omega) (by omega)
    have e10 : IntKind.i64.wrap (at_ + (k : Int) + 1) = at_ + (k : Int) + 1 := wrap_i64 (by omega) (by omega)
    have hg : s[(at_ + (k : Int)).toNat]? = some b := by
      rw [List.getElem?_drop] at hx
      rw [show (at_ + (k : Int)).toNat = at_.toNat + k by omega]; exact hx
    have n9 : ((k : Int) = 9) = (k = 9) := by apply propext; omega
    have c3 : ¬ (s.length : Int) ≤ at_ + k := by omega
    have c4 : 0 ≤ at_ + (k : Int) := by omega
    simp only [stepR]
    cases hbad : badB k b
    · simp only [Bool.false_eq_true, if_false]
      have hs := sum_lt h9 ha hbad
      have hp9 : 128 ^ k ≤ 128 ^ 9 := Nat.pow_le_pow_right (by omega) h9
      obtain ⟨w, hw⟩ : ∃ w, 128 ^ k = w := ⟨_, rfl⟩
      rw [hw] at hp9 hs ha ⊢
      have em : b.toNat % 128 * w = w * (b.toNat % 128) := Nat.mul_comm _ _
      have e1 : IntKind.u64.wrap ((b.toNat : Int) % 128) = ((b.toNat % 128 : Nat) : Int) := by rw [wrap_u64 (by omega) (by omega)]; simp
      have e5 : IntKind.u64.wrap ((w : Int) * ((b.toNat % 128 : Nat) : Int)) = ((b.toNat % 128 * w : Nat) : Int) := by
        rw [em, ← Int.natCast_mul, wrap_u64 (by omega) (by omega)]
      have e6 : IntKind.u64.wrap ((a : Int) + IntKind.u64.wrap ((w : Int) * IntKind.u64.wrap ((b.toNat : Int) % 128))) = ((a + b.toNat % 128 * w : Nat) : Int) := by
        rw [e1, e5, ← Int.natCast_add, wrap_u64 (by omega) (by omega)]
      obtain ⟨v, hv⟩ : ∃ v, a + b.toNat % 128 * w = v := ⟨_, rfl⟩
      rw [hv] at e6 ⊢
      have c1 : k = 9 → ¬ 1 < (b.toNat : Int) := fun h => by simp [badB, h] at hbad; omega
      have c2 : 0 < k → ¬ b.toNat = 0 := fun h => by simp [badB, h] at hbad; omega
      by_cases h128 : b.toNat < 128
      · rw [if_pos h128]
        refine ⟨by simp, ?_⟩
        have g3 : (b.toNat : Int) < 128 := by omega
        by_cases g1 : k = 9
        · have c1' := c1 (by omega)
          have c2' := c2 (by omega)
          have g2 : 0 < k := by omega
          simp -implicitDefEqProofs [hg, n9, eq_true g1, c1', c2', c3, c4, e6, e9, e10, retS, g2, g3, Int.tmod_eq_emod_of_nonneg]
        · by_cases g2 : 0 < k
          · have c2' := c2 (by omega)
            simp -implicitDefEqProofs [hg, n9, eq_false g1, c2', c3, c4, e6, e9, e10, retS, g2, g3, Int.tmod_eq_emod_of_nonneg]
          · simp -implicitDefEqProofs [hg, n9, eq_false g1, c3, c4, e6, e9, e10, retS, g2, g3, Int.tmod_eq_emod_of_nonneg]
      · rw [if_neg h128]
        have hs2 := stepOk h9 (by rw [hw]; exact ha) hbad h128
        rw [hw, hv] at hs2
        have hp8 : 128 ^ (k + 1) ≤ 128 ^ 9 := Nat.pow_le_pow_right (by omega) (by omega)
        have e7 : IntKind.u64.wrap ((w : Int) * 128) = ((128 ^ (k + 1) : Nat) : Int) := by
          rw [Nat.pow_succ, hw] at hp8 ⊢
          rw [wrap_u64 (by omega) (by omega)]; simp
        refine ⟨⟨by omega, hs2.2⟩, ?_⟩
        obtain ⟨w', hw'⟩ : ∃ w', 128 ^ (k + 1) = w' := ⟨_, rfl⟩
        rw [hw'] at e7 ⊢
        have g3 : ¬ (b.toNat : Int) < 128 := by omega
        by_cases g2 : 0 < k
        · have c2' := c2 (by omega)
          have g1 : ¬ k = 9 := by omega
          simp -implicitDefEqProofs [hg, n9, eq_false g1, c2', c3, c4, e6, e7, e9, e2, retS, g2, g3, Int.tmod_eq_emod_of_nonneg]
        · have g1 : ¬ k = 9 := by omega
          simp -implicitDefEqProofs [hg, n9, eq_false g1, c3, c4, e6, e7, e9, e2, retS, g2, g3, Int.tmod_eq_emod_of_nonneg]
    · simp only [if_true]
      refine ⟨by simp, ?_⟩
      by_cases g1 : k = 9
      · by_cases g4 : 1 < (b.toNat : Int)
        · simp -implicitDefEqProofs [hg, n9, eq_true g1, g4, retS, c3, c4, e9]
        · have g5 : (b.toNat : Int) = 0 := by simp [badB, g1] at hbad; omega
          have g2 : 0 < k := by omega
          simp -implicitDefEqProofs [hg, n9, eq_true g1, g4, g5, g2, retS, c3, c4, e9]
      · have g5 : (b.toNat : Int) = 0 := by simp [badB, g1] at hbad; omega
        have g2 : 0 < k := by simp [badB, g1] at hbad; omega
        simp -implicitDefEqProofs [hg, n9, eq_false g1, g5, g2, retS, c3, c4, e9]
  · delta L57_0
    have e9 : IntKind.i64.wrap (at_ + ((s.drop at_.toNat).length : Int)) = (s.length : Int) := by rw [wrap_i64 (by omega) (by omega)]; omega
    obtain ⟨n, hn⟩ : ∃ n, (s.drop at_.toNat).length = n := ⟨_, rfl⟩
    rw [hn] at e9 ⊢
    simp -implicitDefEqProofs [e9, retS]
theorem Read2_ev (s : Bs) (at_ : Int) (hs : s.length ≤ 9223372036854775807) (H : List Blk) :
    EvF tab 57 [T s, I at_] H = some ⟨.tup [U (readS s at_).1, I (readS s at_).2.1, I (readS s at_).2.2], [], []⟩ := by
  refine EvF_walk t57 (by simp) ?_
  unfold readS
  by_cases h1 : 0 ≤ at_
  · by_cases h2 : at_ ≤ s.length
    · have hw := Read2_loop s at_ h1 h2 hs H
      rw [if_pos ⟨h1, h2⟩]
      rcases runR at_ (s.drop at_.toNat) 0 0 with ⟨a', k1, k2⟩ | k1 <;> rw [k1] at hw
      · rw [k2]
        simp -implicitDefEqProofs [show ¬ at_ < 0 by omega, show ¬ (s.length : Int) < at_ by omega, h1, h2, hw, endL, retS]
      · simp -implicitDefEqProofs [show ¬ at_ < 0 by omega, show ¬ (s.length : Int) < at_ by omega, h1, h2, hw, endL, retS]
    · rw [if_neg (by omega)]
      simp -implicitDefEqProofs [show ¬ at_ < 0 by omega, show (s.length : Int) < at_ by omega]
  · rw [if_neg (by omega)]
    simp -implicitDefEqProofs [show at_ < 0 by omega]
end Go.Proofs.YtenndgooepdmiaaGreatDoor
end
