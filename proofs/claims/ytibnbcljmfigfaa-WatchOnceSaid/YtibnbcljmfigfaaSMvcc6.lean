/- A store that is shrunk, by the program. -/
import Derived.Test.YtibnbcljmfigfaaSMvcc5
namespace Go.Proofs.Ytibnbcljmfigfaa
open Go Go.AM Go.Proofs
set_option maxRecDepth 20000
set_option maxHeartbeats 4000000
set_option linter.unusedSimpArgs false
set_option linter.unusedVariables false
theorem CloneE_nil (H : List Blk) : EvF tab 57 [.g .nsl] H = some ⟨.ms (H.length + 1) 1 8 0 0, [], [.rows 8 1 [], .rows 8 1 []]⟩ := by
  refine EvF_walk t57 (by simp) ?_
  simp -implicitDefEqProofs
theorem CloneE_of (l : List Ev) (hl : l.length ≤ 1000000) (H : List Blk) : ∃ g, g ≠ 1 ∧ EvF tab 57 [.g (.sl 8 (l.map Ev.c))] H = some ⟨.ms (H.length + 1) g 8 0 l.length, [], [.rows 8 1 [], .rows 8 g (l.map Ev.c)]⟩ := by
  by_cases h : l = []
  · subst h
    refine ⟨2, by decide, ?_⟩
    refine EvF_walk t57 (by simp) ?_
    simp -implicitDefEqProofs [appV]
  · refine ⟨3, by decide, ?_⟩
    refine EvF_walk t57 (by simp) ?_
    cases l with
    | nil => exact absurd rfl h
    | cons x l =>
      simp only [List.length_cons] at hl
      simp -implicitDefEqProofs [appV, room, show l.length + 1 ≤ 140737488355328 by omega, show (l.length + 1) * 80 ≤ 140737488355328 by omega]
theorem shr1_ev (e : Ev) (to : Int) {H : List Blk} {p : Nat} (hp : H[p]? = some (.cells [I to])) : EvF tab 58 [A e.c, .ptr p 0] H = some ⟨B (decide (e.rev ≤ to)), [], []⟩ := by
  have hlt : p < H.length := (List.getElem?_eq_some_iff.1 hp).1
  have hg : H[p] = .cells [I to] := (List.getElem?_eq_some_iff.1 hp).2
  refine EvF_walk t58 (by simp) ?_
  simp -implicitDefEqProofs [Ev.c, A, getB_old hlt, orB, hg, hp]
theorem idxM_ev (l : List Ev) (p : Ev → Bool) (fv : AV) (hl : l.length ≤ 1000000) {H : List Blk} {id g : Nat} (hid : H[id]? = some (.rows 8 g (l.map Ev.c)))
    (hcall : ∀ x ∈ l, ∀ t, evCall (EvF tab) H [] ⟨t, [], []⟩ fv [A x.c] = some (.g (.bool (p x)), ⟨t, [], []⟩, [])) :
    EvF tab 78 [.ms id g 8 0 l.length, fv] H = some ⟨I (idxG p 0 l), [], []⟩ := by
  have hlt : id < H.length := (List.getElem?_eq_some_iff.1 hid).1
  have hw := loop_run (E := EvF tab) (h := H) (c := L78_0) (lv := [0, 1, 7, 8]) (l := l) (fun _ (_ : Unit) => True) (fun k x _ => if p x = true then .inr (.ret, ⟨[(4, I k)], [], []⟩) else .inl ())
    (fun k _ => ⟨[(0, .ms id g 8 0 l.length), (1, fv), (7, I l.length), (8, I k)], [], []⟩) (fun _ => (.exit 0, ⟨[(0, .ms id g 8 0 l.length), (1, fv), (7, I l.length), (8, I l.length), (9, B false)], [], []⟩)) (by simp)
    (fun k x _ hk hx hx' _ => ?_) (fun _ _ => by delta L78_0; simp -implicitDefEqProofs) l.length 0 () rfl (Nat.zero_le _) trivial
  · have key : ∀ (l : List Ev) (k : Nat) (fin : Ex × St), endL (fun _ => fin) (runL (β := Unit) (fun k x _ => if p x = true then .inr (.ret, ⟨[(4, I k)], [], []⟩) else .inl ()) k l ()) = if l.any p = true then (.ret, ⟨[(4, I (idxG p k l))], [], []⟩) else fin := by
      intro l
      induction l with
      | nil => intro k fin; simp [runL, endL]
      | cons x l ih =>
        intro k fin
        simp only [runL, List.any_cons, idxG]
        by_cases hp : p x = true
        · simp [hp, endL]
        · simp only [hp, Bool.false_eq_true, if_false]
          rw [ih]; simp
    rw [List.drop_zero, key] at hw
    refine EvF_walk t78 (by simp) ?_
    have e0 : ((0 : Nat) : Int) = 0 := rfl
    rw [e0] at hw
    by_cases ha : l.any p = true
    · rw [if_pos ha] at hw
      simp -implicitDefEqProofs [getB_old hlt, orB, hid, hw]
    · rw [if_neg ha] at hw
      have hn : idxG p 0 l = -1 := by
        have := mt (idxG_iff p l 0).1 ha
        clear hw key hid hcall
        have aux : ∀ (l : List Ev) k, ¬ l.any p = true → idxG p k l = -1 := by
          intro l
          induction l with
          | nil => intro k _; rfl
          | cons x l ih => intro k h; simp only [List.any_cons, Bool.or_eq_true, not_or] at h; unfold idxG; rw [if_neg h.1]; exact ih _ h.2
        exact aux l 0 ha
      simp -implicitDefEqProofs [getB_old hlt, orB, hid, hw, hn]
  · have hc := hcall x (List.mem_of_getElem? hx)
    have e2 := wrap_succ hk (by omega)
    delta L78_0
    generalize hp : p x = b at hc
    obtain ⟨er, eg, ek⟩ := x
    simp only [A, Ev.c, List.map_cons, List.map_nil] at hc
    cases b
    · simp -implicitDefEqProofs [getB_old hlt, orB, hid, hk, hx', Ev.c, hc, hp, e2]
    · simp -implicitDefEqProofs [getB_old hlt, orB, hid, hk, hx', Ev.c, hc, hp, e2]
/-- What stays, at each place of the walk. -/
def stay (p : Ev → Bool) (b : List Ev × Bool) (x : Ev) : List Ev × Bool := if p x = true then b else (b.1 ++ [x], true)
theorem stay_fin (p : Ev → Bool) : ∀ (l : List Ev) (b : List Ev × Bool), (l.foldl (stay p) b).1 = b.1 ++ l.filter (fun x => !p x)
  | [], b => by simp
  | x :: l, b => by
    rw [List.foldl_cons, stay_fin p l]
    unfold stay
    by_cases h : p x = true
    · simp [h]
    · simp [Bool.eq_false_iff.2 h]
def stayM (id g : Nat) (l : List Ev) (b : List Ev × Bool) : List (Nat × Blk) := if b.2 = true then [(id, .rows 8 g ((b.1 ++ l.drop b.1.length).map Ev.c))] else []
theorem del_loop (l l1 l2 : List Ev) (x0 : Ev) (hll : l = l1 ++ x0 :: l2) (p : Ev → Bool) (fv : AV) (hl : l.length ≤ 1000000) {H : List Blk} {id g : Nat} (hid : H[id]? = some (.rows 8 g (l.map Ev.c)))
    (hcall : ∀ x ∈ l, ∀ t o m, (m = [] ∨ ∃ els, m = [(id, .rows 8 g els)]) → evCall (EvF tab) H [] ⟨t, m, o⟩ fv [A x.c] = some (.g (.bool (p x)), ⟨t, m, o⟩, [])) :
    ∃ o, loopE (EvF tab) H L56_0 [0, 1, 5, 6] ⟨[(0, .ms id g 8 0 l.length), (1, fv), (5, I l1.length), (6, I (l1.length + 1 : Nat))], [], [.rows 8 1 []]⟩ =
      some (.exit 0, ⟨[(0, .ms id g 8 0 l.length), (1, fv), (5, I ((l2.foldl (stay p) (l1, false)).1.length)), (6, I l.length), (19, B false)], stayM id g l (l2.foldl (stay p) (l1, false)), .rows 8 1 [] :: o⟩) := by
  have hlt : id < H.length := (List.getElem?_eq_some_iff.1 hid).1
  have hlen : l.length = l1.length + 1 + l2.length := by rw [hll]; simp; omega
  have hw := loop_runJ (E := EvF tab) (h := H) (c := L56_0) (lv := [0, 1, 5, 6]) (l := l2) (β := List Ev × Bool) (γ := Unit) (fun k b => b.1.length ≤ l1.length + k ∧ (b.2 = false → b.1 = l1)) (fun k x b => .inl (stay p b x))
    (fun k b o => ⟨[(0, .ms id g 8 0 l.length), (1, fv), (5, I b.1.length), (6, I (l1.length + 1 + k : Nat))], stayM id g l b, .rows 8 1 [] :: o⟩)
    (fun b o => (.exit 0, ⟨[(0, .ms id g 8 0 l.length), (1, fv), (5, I b.1.length), (6, I l.length), (19, B false)], stayM id g l b, .rows 8 1 [] :: o⟩))
    (fun _ o => (.ret, ⟨[], [], o⟩)) (by simp) (by simp) (fun k x b o hk hx hy hi => ?_) (fun b o hi => ?_) (l1, false) [] (by simp)
  · obtain ⟨o', hw⟩ := hw
    rw [runG_fold] at hw
    exact ⟨o', hw⟩
  · have e2 : IntKind.i64.wrap (((l1.length + 1 + k : Nat) : Int) + 1) = ((l1.length + 1 + (k + 1) : Nat) : Int) := by rw [wrap_i64 (by omega) (by omega)]; omega
    have hpos : l1.length + 1 + k < l.length := by omega
    have hposI : ((l1.length + 1 + k : Nat) : Int) < (l.length : Int) := by omega
    have hgx : l[l1.length + 1 + k]? = some x := by rw [hll, List.getElem?_append_right (by omega), show l1.length + 1 + k - l1.length = k + 1 by omega, List.getElem?_cons_succ]; exact hx
    have hgx2 : l[l1.length + 1 + k] = x := (List.getElem?_eq_some_iff.1 hgx).2
    have hc := hcall x (List.mem_of_getElem? hgx)
    generalize hpp : p x = q at hc
    obtain ⟨r, w⟩ := b
    obtain ⟨hi1, hi2⟩ := hi
    simp only at hi1 hi2 ⊢
    have e5 : IntKind.i64.wrap ((r.length : Int) + 1) = ((r.length : Int) + 1) := wrap_i64 (by omega) (by omega)
    have hrl : r.length < l.length := by omega
    obtain ⟨er, eg, ek⟩ := x
    simp only [A, Ev.c, List.map_cons, List.map_nil] at hc
    generalize hn : l1.length + 1 + k = n at e2 hpos hposI hgx hgx2 ⊢
    delta L56_0
    cases q
    · have hs : stay p (r, w) ⟨er, eg, ek⟩ = (r ++ [⟨er, eg, ek⟩], true) := by unfold stay; rw [hpp]; rfl
      refine ⟨⟨by rw [hs]; simp; omega, by rw [hs]; simp⟩, o ++ [.cells (Ev.c ⟨er, eg, ek⟩ |>.map .g)], ?_⟩
      rw [hs]
      cases w
      · have hc2 := fun t o => hc t o [] (.inl rfl)
        unfold stayM
        simp only [Bool.false_eq_true, if_false, if_true] at hc2 ⊢
        simp -implicitDefEqProofs [getB_old hlt, setB_old hlt, orB, hid, hpos, hposI, hgx2, Ev.c, hc2, e2, e5, hrl]
        have hr1 := hi2 rfl
        subst hr1
        rw [List.set_eq_take_append_cons_drop, if_pos (by simp; omega)]
        rw [← List.map_take, ← List.map_drop, hll, List.take_left]
      · obtain ⟨els, hels⟩ : ∃ els, (r ++ l.drop r.length).map Ev.c = els := ⟨_, rfl⟩
        have hel : els.length = l.length := by rw [← hels]; simp; omega
        have hge : els[n]? = some (Ev.c ⟨er, eg, ek⟩) := by
          rw [← hels, List.getElem?_map, List.getElem?_append_right (by omega), List.getElem?_drop, show r.length + (n - r.length) = n by omega, hgx]; rfl
        have hset : els.set r.length (Ev.c ⟨er, eg, ek⟩) = ((r ++ [(⟨er, eg, ek⟩ : Ev)]) ++ l.drop (r.length + 1)).map Ev.c := by
          rw [← hels, List.map_append, List.set_append_right _ _ (by simp), List.length_map, Nat.sub_self, List.drop_eq_getElem_cons hrl]
          simp only [List.map_cons, List.set_cons_zero, List.map_append, List.map_nil, List.append_assoc, List.cons_append, List.nil_append]
        have hc2 := fun t o => hc t o _ (.inr ⟨els, rfl⟩)
        unfold stayM
        simp only [if_true, List.length_append, List.length_cons, List.length_nil, Nat.zero_add] at hc2 ⊢
        rw [hels, ← hset]
        have hpos' : n < els.length := by omega
        have hge2 : els[n] = Ev.c ⟨er, eg, ek⟩ := (List.getElem?_eq_some_iff.1 hge).2
        simp only [Ev.c] at hge hge2
        have h8 : ∀ hh : r.length < els.length, els[r.length].length = 8 := by intro hh; subst hels; simp [Ev.c, KV.c]
        simp -implicitDefEqProofs [getB_old hlt, setB_old hlt, orB, hid, hpos, hpos', hposI, hel, hge, hge2, Ev.c, hc2, e2, e5, hrl]
        have h8 := h8 (by omega)
        exact ⟨by omega, by rw [List.drop_eq_nil_of_le (by omega)]⟩
    · have hs : stay p (r, w) ⟨er, eg, ek⟩ = (r, w) := by unfold stay; rw [hpp]; rfl
      refine ⟨⟨by rw [hs]; simp; omega, by rw [hs]; exact hi2⟩, o ++ [.cells (Ev.c ⟨er, eg, ek⟩ |>.map .g)], ?_⟩
      rw [hs]
      cases w
      · have hc2 := fun t o => hc t o [] (.inl rfl)
        unfold stayM
        simp only [Bool.false_eq_true, if_false, if_true] at hc2 ⊢
        simp -implicitDefEqProofs [getB_old hlt, setB_old hlt, orB, hid, hpos, hposI, hgx2, Ev.c, hc2, e2, e5, hrl]
      · obtain ⟨els, hels⟩ : ∃ els, (r ++ l.drop r.length).map Ev.c = els := ⟨_, rfl⟩
        have hel : els.length = l.length := by rw [← hels]; simp; omega
        have hge : els[n]? = some (Ev.c ⟨er, eg, ek⟩) := by
          rw [← hels, List.getElem?_map, List.getElem?_append_right (by omega), List.getElem?_drop, show r.length + (n - r.length) = n by omega, hgx]; rfl
        have hc2 := fun t o => hc t o _ (.inr ⟨els, rfl⟩)
        unfold stayM
        simp only [if_true, List.length_append, List.length_cons, List.length_nil, Nat.zero_add] at hc2 ⊢
        rw [hels]
        have hpos' : n < els.length := by omega
        have hge2 : els[n] = Ev.c ⟨er, eg, ek⟩ := (List.getElem?_eq_some_iff.1 hge).2
        simp only [Ev.c] at hge hge2
        simp -implicitDefEqProofs [getB_old hlt, setB_old hlt, orB, hid, hpos, hpos', hposI, hel, hge, hge2, Ev.c, hc2, e2, e5, hrl]
  · obtain ⟨r, w⟩ := b
    have e1 : l1.length + 1 + l2.length = l.length := hlen.symm
    rw [e1]
    delta L56_0
    unfold stayM
    cases w
    · simp only [Bool.false_eq_true, if_false]
      simp -implicitDefEqProofs [getB_old hlt, orB, hid]
    · simp only [if_true]
      simp -implicitDefEqProofs [getB_old hlt, orB, hid]
theorem idxG_neg (p : Ev → Bool) : ∀ (l : List Ev) k, idxG p k l = -1 → l.filter (fun x => !p x) = l
  | [], k, _ => rfl
  | x :: l, k, h => by
    unfold idxG at h
    by_cases hp : p x = true
    · rw [if_pos hp] at h; omega
    · rw [if_neg hp] at h
      simp only [List.filter_cons, Bool.eq_false_iff.2 hp, Bool.not_false, if_true, idxG_neg p l _ h]
theorem idxG_split (p : Ev → Bool) : ∀ (l : List Ev) k, idxG p k l = -1 ∨ ∃ l1 x l2, l = l1 ++ x :: l2 ∧ idxG p k l = ((k + l1.length : Nat) : Int) ∧ p x = true ∧ l1.filter (fun x => !p x) = l1
  | [], k => .inl rfl
  | x :: l, k => by
    unfold idxG
    by_cases hp : p x = true
    · exact .inr ⟨[], x, l, rfl, by rw [if_pos hp]; simp, hp, rfl⟩
    · rw [if_neg hp]
      rcases idxG_split p l (k + 1) with h | ⟨l1, y, l2, h1, h2, h3, h4⟩
      · exact .inl h
      · exact .inr ⟨x :: l1, y, l2, by rw [h1]; rfl, by rw [h2]; simp; omega, h3, by simp only [List.filter_cons, Bool.eq_false_iff.2 hp, Bool.not_false, if_true, h4]⟩
theorem stay_w (p : Ev → Bool) : ∀ (l : List Ev) (b : List Ev × Bool), (l.foldl (stay p) b).2 = false → (l.foldl (stay p) b).1 = b.1
  | [], b, _ => rfl
  | x :: l, b, h => by
    rw [List.foldl_cons] at h ⊢
    rw [stay_w p l _ h]
    have h2 : (stay p b x).2 = false := by
      have aux : ∀ (l : List Ev) (b : List Ev × Bool), b.2 = true → (l.foldl (stay p) b).2 = true := by
        intro l
        induction l with
        | nil => intro b h; exact h
        | cons x l ih => intro b h; rw [List.foldl_cons]; refine ih _ ?_; unfold stay; split; exact h; rfl
      cases hb : (stay p b x).2
      · rfl
      · rw [aux l _ hb] at h; cases h
    unfold stay at h2 ⊢
    split
    · rfl
    · rename_i hh; rw [if_neg hh] at h2; cases h2
theorem Del_ev (l : List Ev) (p : Ev → Bool) (fv : AV) (hl : l.length ≤ 1000000) {H : List Blk} {id g : Nat} (hid : H[id]? = some (.rows 8 g (l.map Ev.c)))
    (hcall : ∀ x ∈ l, ∀ o' t o m, (m = [] ∨ ∃ els, m = [(id, .rows 8 g els)]) → evCall (EvF tab) (H ++ o') [] ⟨t, m, o⟩ fv [A x.c] = some (.g (.bool (p x)), ⟨t, m, o⟩, [])) :
    ∃ m, (m = [] ∧ (l.filter fun x => !p x) = l ∨ ∃ z, m = [(id, .rows 8 g ((l.filter fun x => !p x).map Ev.c ++ z))]) ∧
      EvF tab 56 [.ms id g 8 0 l.length, fv] H = some ⟨.ms id g 8 0 (l.filter fun x => !p x).length, m, []⟩ := by
  have hlt : id < H.length := (List.getElem?_eq_some_iff.1 hid).1
  have h1 := fun o => idxM_ev (H := H ++ o) l p fv hl (by rw [List.getElem?_append_left hlt]; exact hid) (fun x hx t => hcall x hx o t [] [] (.inl rfl))
  rcases idxG_split p l 0 with hn | ⟨l1, x, l2, e1, e2, e3, e4⟩
  · refine ⟨[], .inl ⟨rfl, idxG_neg p l 0 hn⟩, ?_⟩
    rw [idxG_neg p l 0 hn]
    refine EvF_walk t56 (by simp) ?_
    rw [hn] at h1
    simp -implicitDefEqProofs [h1, hlt]
  · obtain ⟨o, hw⟩ := del_loop l l1 l2 x e1 p fv hl hid (fun x hx t o m hm => by have := hcall x hx [] t o m hm; rw [List.append_nil] at this; exact this)
    have hf := stay_fin p l2 (l1, false)
    have hfl : (l.filter fun x => !p x) = (l2.foldl (stay p) (l1, false)).1 := by
      rw [hf, e1, List.filter_append, List.filter_cons, e4, e3]; rfl
    have hlen : l.length = l1.length + 1 + l2.length := by rw [e1]; simp; omega
    have hle : (l2.foldl (stay p) (l1, false)).1.length ≤ l.length := by rw [← hfl]; exact List.length_filter_le _ _
    rw [← hfl] at hw hle
    generalize hw0 : l2.foldl (stay p) (l1, false) = b at hw hfl
    obtain ⟨r, w⟩ := b
    simp only at hfl
    rw [hfl] at hw hle ⊢
    rw [Nat.zero_add] at e2
    rw [e2] at h1
    have n1 : IntKind.i64.wrap ((l1.length : Int) + 1) = (l1.length : Int) + 1 := wrap_i64 (by omega) (by omega)
    rw [show ((l1.length + 1 : Nat) : Int) = (l1.length : Int) + 1 by omega] at hw
    have n2 : ¬ (l1.length : Int) = -1 := by omega
    refine ⟨[(id, .rows 8 g (r.map Ev.c ++ List.replicate (l.length - r.length) [.int .i64 0, .bool false, .str [], .str [], .int .i64 0, .int .i64 0, .int .i64 0, .int .i64 0]))], .inr ⟨_, rfl⟩, ?_⟩
    refine EvF_walk t56 (by simp) ?_
    unfold stayM at hw
    have hrI : (r.length : Int) ≤ (l.length : Int) := by omega
    cases w
    · have hr : r = l1 := by
        have := stay_w p l2 (l1, false) (by rw [hw0])
        rw [hw0] at this; exact this
      subst hr
      have hidg : H[id] = .rows 8 g (l.map Ev.c) := (List.getElem?_eq_some_iff.1 hid).2
      have e9 : List.take r.length (l.map Ev.c) = r.map Ev.c := by rw [← List.map_take, e1, List.take_left]
      simp -implicitDefEqProofs [h1, hlt, n1, n2, hw, getB_old hlt, setB_old hlt, orB, hid, hidg, cutB, bnd, intOfA, hle, hrI, e9]
    · simp -implicitDefEqProofs [h1, hlt, n1, n2, hw, getB_old hlt, setB_old hlt, orB, hid, cutB, bnd, intOfA, hle, hrI]
theorem shr1_call (to : Int) {HH : List Blk} {p id g : Nat} (hp : HH[p]? = some (.cells [I to])) (hne : id ≠ p) (x : Ev) (o' : List Blk) (t : List (Nat × AV)) (o : List Blk) (m : List (Nat × Blk)) (hm : m = [] ∨ ∃ els, m = [(id, .rows 8 g els)]) :
    evCall (EvF tab) (HH ++ o') [] ⟨t, m, o⟩ (.fv 58 [.ptr p 0]) [A x.c] = some (B (decide (x.rev ≤ to)), ⟨t, m, o⟩, []) := by
  have hlt : p < HH.length := (List.getElem?_eq_some_iff.1 hp).1
  have hf : (full (HH ++ o') ⟨t, m, o⟩)[p]? = some (.cells [I to]) := by
    rw [getB_full, getB_old (by rw [List.length_append]; omega), List.getElem?_append_left hlt, hp]
    rcases hm with h | ⟨els, h⟩ <;> subst h
    · rfl
    · simp [hne, orB]
  have h1 := shr1_ev x to hf
  unfold evCall
  simp only [List.all_nil, if_true, hideB, List.cons_append, List.nil_append]
  rw [h1, fin_res, setAll_nil]
  simp
def shrE (s : Store) (to : Int) : Int := if to < 0 ∨ s.rev < to then 8 else if to < s.low then 9 else 0
def keepL (to : Int) (l : List Ev) : List Ev := l.filter fun x => !decide (x.rev ≤ to)
def keepR (to : Int) : Sl Ev → Sl Ev
  | .nil => .nil
  | .of l => .of (keepL to l)
def shrS (s : Store) (to : Int) : Store := if shrE s to = 0 then ⟨s.rev, to, foldR s.base s.log.l to, keepR to s.log⟩ else s
theorem Shrink_ev (s : Store) (to : Int) (hs : smallS s) (H : List Blk) :
    EvF tab 26 [A s.c, I to] H = some ⟨.tup [A (shrS s to).c, I (shrE s to)], [], []⟩ := by
  have hs' := hs
  unfold smallS at hs'
  have m1 := fun H => Fold_ev s.base s.log to (by omega) H
  refine EvF_walk t26 (by simp) ?_
  unfold shrS shrE
  obtain ⟨srev, slow, sbase, slog⟩ := s
  simp only at hs' m1 ⊢
  generalize hF : foldR sbase slog.l to = F at m1 ⊢
  generalize hg1 : KVs.g sbase = G1 at m1
  generalize hg2 : KVs.g F = G2 at m1
  by_cases c1 : to < 0
  · simp -implicitDefEqProofs [A, Store.c, hg1, c1]
  · by_cases c2 : srev < to
    · simp -implicitDefEqProofs [A, Store.c, hg1, c1, c2]
    · by_cases c3 : to < slow
      · simp -implicitDefEqProofs [A, Store.c, hg1, c1, c2, c3]
      · cases slog with
        | nil =>
          simp only [Evs.g, Sl.g_nil] at m1 ⊢
          have m3 := fun H => CloneE_nil H
          obtain ⟨m, hm, m4⟩ := Del_ev [] (fun e => decide (e.rev ≤ to)) (.fv 58 [.ptr (H.length + 1) 0]) (by simp) (H := H ++ [.cells [I srev, I to, .g G2, .g .nsl], .cells [I to], .rows 6 1 [], .rows 8 1 [], .cells [I 0, I 0, .ms (H.length + 2) 1 6 0 0, .ms (H.length + 3) 1 8 0 0], .rows 8 1 [], .rows 8 1 []]) (id := H.length + 6) (g := 1) (by simp) (fun x _ o' t o m hm => shr1_call to (g := 1) (by simp) (by omega) x o' t o m hm)
          simp only [List.filter_nil, List.length_nil, List.map_nil, List.nil_append] at hm m4
          rcases hm with ⟨hm, -⟩ | ⟨z, hm⟩ <;> subst hm <;> simp -implicitDefEqProofs [A, Store.c, hg1, hg2, c1, c2, c3, m1, m3, m4, keepR]
        | of l =>
          simp only [Evs.g, Sl.g_of, Sl.l_of] at m1 hs' hF ⊢
          obtain ⟨g, hg, m3⟩ := CloneE_of l (by omega) (H ++ [.cells [I srev, I to, .g G2, .g (.sl 8 (l.map Ev.c))], .cells [I to], .rows 6 1 [], .rows 8 1 [], .cells [I 0, I 0, .ms (H.length + 2) 1 6 0 0, .ms (H.length + 3) 1 8 0 0]])
          obtain ⟨m, hm, m4⟩ := Del_ev l (fun e => decide (e.rev ≤ to)) (.fv 58 [.ptr (H.length + 1) 0]) (by omega) (H := H ++ [.cells [I srev, I to, .g G2, .g (.sl 8 (l.map Ev.c))], .cells [I to], .rows 6 1 [], .rows 8 1 [], .cells [I 0, I 0, .ms (H.length + 2) 1 6 0 0, .ms (H.length + 3) 1 8 0 0], .rows 8 1 [], .rows 8 g (l.map Ev.c)]) (id := H.length + 6) (g := g) (by simp) (fun x _ o' t o m hm => shr1_call to (g := g) (by simp) (by omega) x o' t o m hm)
          rw [show (l.filter fun e => !decide (e.rev ≤ to)) = keepL to l from rfl] at hm m4
          have e5 : List.take (keepL to l).length (List.map Ev.c (keepL to l)) = List.map Ev.c (keepL to l) := List.take_of_length_le (by simp)
          rcases hm with ⟨hm, hk⟩ | ⟨z, hm⟩ <;> subst hm
          · rw [hk] at m4
            simp -implicitDefEqProofs [A, Store.c, hg1, hg2, c1, c2, c3, m1, m3, m4, keepR, hg, hk, List.append_assoc, List.cons_append, List.nil_append]
            exact List.take_of_length_le (by simp)
          · simp -implicitDefEqProofs [A, Store.c, hg1, hg2, c1, c2, c3, m1, m3, m4, keepR, hg, e5, List.append_assoc, List.cons_append, List.nil_append]
end Go.Proofs.Ytibnbcljmfigfaa