/- append: what the abstract machine says of it, the model's machine does. -/
import Derived.Test.YtahjgmldkbbpaaaAMApp
set_option linter.unusedSimpArgs false
set_option linter.unusedVariables false
namespace Go.AM
open Go

/-- Elements and the cells that they are. -/
def NewIs (E : Env) (sz : Nat) (ys : List (List GV)) (news : List Value) : Prop :=
  news.length = ys.length * sz ∧ ∀ (i : Nat) (el : List GV), ys[i]? = some el → el.length = sz ∧ ∀ (j : Nat) (g : GV), el[j]? = some g → ∃ u, news[i * sz + j]? = some u ∧ GR E g u

theorem NewIs.one {E : Env} {sz : Nat} {ys : List (List GV)} {news : List Value} (h : NewIs E sz ys news) : ∀ u ∈ news, u.oneCell' = true := by
  intro u hu
  obtain ⟨k, hk⟩ := List.getElem?_of_mem hu
  have hlt : k < ys.length * sz := by rw [← h.1]; exact (List.getElem?_eq_some_iff.1 hk).1
  have hsz : 0 < sz := by
    rcases Nat.eq_zero_or_pos sz with e | e
    · subst e; simp at hlt
    · exact e
  have hi : k / sz < ys.length := Nat.div_lt_of_lt_mul (by rw [Nat.mul_comm]; exact hlt)
  obtain ⟨h1, h2⟩ := h.2 (k / sz) _ (List.getElem?_eq_getElem hi)
  have hj : k % sz < (ys[k / sz]).length := by rw [h1]; exact Nat.mod_lt _ hsz
  obtain ⟨u', e1, e2⟩ := h2 (k % sz) _ (List.getElem?_eq_getElem hj)
  rw [Nat.mul_comm, Nat.div_add_mod, hk] at e1
  cases e1
  exact e2.one

theorem mul_lt_row {i j i' sz : Nat} (h : i < i') (hj : j < sz) : i * sz + j < i' * sz := by
  have := Nat.mul_le_mul_right sz (show i + 1 ≤ i' by omega)
  rw [Nat.add_mul] at this; omega

section
variable {P : Program} {h : List Blk} {s s' : St} {a : Act} {w : World} {L : Nat → Lc} {v : AV} {ws : List Nat}

theorem appV_ok (hr : HR w (full h s) L) {t u ty e : TypeId} {sz bytes : Nat} {z : Value} (hzs : z.cells.size = sz) {x : AV} {cx y : Value} {ys : List (List GV)} {news : List Value} (hx : AR (envOf w (full h s) L) x cx) (hy : NewIs (envOf w (full h s) L) sz ys news)
    (hroom : ∀ (A : Option Addr) (sLen sCap : Nat) (w2 : World), sLen + ys.length ≤ sCap → (match A with | none => w2 = w | some a => (storeCells (a.add (sLen * sz)) news).run P w = .ok () w2) →
      (Builtin.append_ #[t, u] ty #[.slice A sLen sCap, y]).run P w = .ok (.slice A (sLen + ys.length) sCap) w2)
    (hgrow : ∀ (A : Option Addr) (sLen sCap : Nat) (olds : List Value), ¬ sLen + ys.length ≤ sCap → sLen + ys.length ≤ 9223372036854775807 → (sLen + ys.length) * bytes ≤ 140737488355328 →
      (∀ w1 : World, w1.heap = w.heap → (Builtin.firstCells sz sLen (.slice A sLen sCap)).run P w1 = .ok olds.toArray w1) →
      (Builtin.append_ #[t, u] ty #[.slice A sLen sCap, y]).run P w = .ok (.slice (some ⟨w.heap.size, 0, none⟩) (sLen + ys.length) (grownCap w (sLen + ys.length) sCap e)) (grownW w (sLen + ys.length) sCap e z olds news))
    (he : appV h s sz bytes x ys = some (v, s', ws)) :
    (∃ cv w' L', (Builtin.append_ #[t, u] ty #[cx, y]).run P w = .ok cv w' ∧ AR (envOf w' (full h s') L') v cv ∧ HR w' (full h s') L' ∧ Ext (envOf w (full h s) L) (envOf w' (full h s') L') ∧ Same w w' (full h s) L L' ws) ∧ s'.t = s.t := by
  have hgrows : ∀ (need old : Nat) (olds : List Value), Grows w (grownW w need old e z olds news) := fun need old olds => (Grows.drew w (w.drawn + 1)).trans (Grows.push _ _)
  -- a new row
  have fresh : ∀ (need old : Nat) (olds : List Value) (els : List (List GV)), NewIs (envOf w (full h s) L) sz els olds → els.length + ys.length = need →
      RowsIn (envOf w (full h s) L) (olds.toArray ++ (news.toArray ++ Builtin.zeroCells z.cells (grownCap w need old e - need))) sz (grownCap w need old e) (els ++ ys) := by
    intro need old olds els hels hneed
    have hge := grownCap_ge w need old e
    refine ⟨?_, by rw [List.length_append, hneed]; exact hge, fun i el hi => ?_⟩
    · simp only [Array.size_append, List.size_toArray, size_zeroCells, hzs, hels.1, hy.1]
      rw [← Nat.add_assoc, ← Nat.add_mul, ← Nat.add_mul, hneed, Nat.add_sub_of_le hge]
    · by_cases hlt : i < els.length
      · rw [List.getElem?_append_left hlt] at hi
        obtain ⟨h1, h2⟩ := hels.2 i el hi
        refine ⟨h1, fun j g hj => ?_⟩
        obtain ⟨q, q1, q2⟩ := h2 j g hj
        refine ⟨q, ?_, q2⟩
        rw [Array.getElem?_append_left (by simpa using (List.getElem?_eq_some_iff.1 q1).1)]
        simpa using q1
      · rw [List.getElem?_append_right (by omega)] at hi
        obtain ⟨h1, h2⟩ := hy.2 _ el hi
        refine ⟨h1, fun j g hj => ?_⟩
        obtain ⟨q, q1, q2⟩ := h2 j g hj
        refine ⟨q, ?_, q2⟩
        have hle : els.length * sz ≤ i * sz + j := Nat.le_trans (Nat.mul_le_mul_right sz (by omega : els.length ≤ i)) (Nat.le_add_right _ _)
        rw [Array.getElem?_append_right (by simp only [List.size_toArray, hels.1]; exact hle), Array.getElem?_append_left]
        · simp only [List.size_toArray, hels.1, List.getElem?_toArray]
          rw [← q1]; congr 1
          rw [Nat.sub_mul]
          have := Nat.mul_le_mul_right sz (by omega : els.length ≤ i)
          omega
        · have := (List.getElem?_eq_some_iff.1 q1).1
          simp only [List.size_toArray, hels.1]
          rw [Nat.sub_mul] at this
          have := Nat.mul_le_mul_right sz (by omega : els.length ≤ i)
          omega
  have hempty : NewIs (envOf w (full h s) L) sz [] [] := ⟨by simp, by simp⟩
  unfold appV at he
  split at he
  · -- nothing is appended
    have hn0 : news = [] := List.eq_nil_of_length_eq_zero (by have := hy.1; simpa using this)
    subst hn0
    have same : ∀ (A : Option Addr) (n cap : Nat), cx = .slice A n cap → n ≤ cap → (Builtin.append_ #[t, u] ty #[cx, y]).run P w = .ok cx w := by
      intro A n cap e1 e2
      subst e1
      have := hroom A n cap w (by simpa using e2) (by cases A <;> simp [storeCells])
      simpa using this
    split at he
    · simp at he
      obtain ⟨rfl, rfl, rfl⟩ := he
      have hq := hx.inv_g
      cases hq
      refine ⟨⟨_, w, L, same none 0 0 rfl (Nat.le_refl _), .g .nsl, hr, Ext.refl _, fun _ _ _ => ⟨rfl, fun _ _ _ => rfl⟩⟩, rfl⟩
    · split at he
      · rename_i hc
        obtain ⟨rfl, hcur⟩ := hc
        simp at he
        obtain ⟨rfl, rfl, rfl⟩ := he
        obtain ⟨hid, hg0, hgen, hm⟩ := ms_ok hr hcur hx
        obtain ⟨A, cap, e1, e2⟩ := hm.slice
        exact ⟨⟨cx, w, L, same A _ cap e1 e2, hx, hr, Ext.refl _, fun _ _ _ => ⟨rfl, fun _ _ _ => rfl⟩⟩, rfl⟩
      · cases he
    · cases he
  · rename_i hne
    have hpos : 0 < ys.length := by
      cases ys with
      | nil => exact absurd rfl hne
      | cons => simp
    split at he
    · -- to nil
      split at he
      · rename_i hrm
        simp at he
        obtain ⟨rfl, rfl, rfl⟩ := he
        have hrm' : ys.length ≤ 140737488355328 ∧ ys.length * bytes ≤ 140737488355328 := by simpa [room] using hrm
        have hq := hx.inv_g
        cases hq
        have hrun := hgrow none 0 0 [] (by omega) (by omega) (by simpa using hrm'.2) (fun w1 _ => by simp [Builtin.firstCells])
        obtain ⟨L', k1, k2, k3, k4⟩ := hr.newRows (hgrows (0 + ys.length) 0 []) sz ys (grownCap w (0 + ys.length) 0 e) _ e w.heap.size (Nat.le_refl _) (heap_alloc_new w.drew _) (by simpa using fresh (0 + ys.length) 0 [] [] hempty (by simp)) []
        rw [full_length] at k4
        refine ⟨⟨_, _, L', hrun, ?_, ?_, ?_, k3⟩, rfl⟩ <;> rw [full_push]
        · simpa using k4
        · exact k1
        · exact k2
      · cases he
    · -- to a row of the calls' own
      rename_i id g sz' off len
      cases hB : getB h s id with
      | none => simp [hB] at he
      | some k =>
        cases k <;> simp [hB] at he
        rename_i sz2 g' els
        obtain ⟨⟨rfl, rfl, rfl⟩, he⟩ := he
        have hcur : cur h s id g = true := by simp [cur, hB]
        obtain ⟨hid, hg0, hgen, hm⟩ := ms_ok hr hcur hx
        have hget : (full h s)[id]? = some (.rows sz g els) := by rw [getB_full]; exact hB
        obtain ⟨hg1, ⟨hg2, hg3⟩, hrow⟩ := hr.blk id _ hget
        have hg1' : (L id).gen = g := hg1
        have hg2' : (L id).st = false := hg2
        split at he
        · -- there is room
          rename_i hfit
          simp at he
          obtain ⟨rfl, rfl, rfl⟩ := he
          cases hbk : (L id).blk with
          | none =>
            have : els = [] := by
              have hb' : (envOf w (full h s) L).L id = L id := rfl
              rw [hb', hbk] at hrow; exact hrow.1
            subst this; simp only [List.length_nil] at hfit; omega
          | some b =>
            have hb' : (envOf w (full h s) L).L id = L id := rfl
            rw [hb', hbk] at hrow
            obtain ⟨T, C, hb2, hC1, hC2, hC3⟩ := hrow
            unfold MsOk at hm
            rw [hbk] at hm
            obtain ⟨A, c, rfl, hoc, hlc, hA⟩ := hm
            have hA' : A = ⟨b, off * sz, none⟩ := hA.resolve_right (by omega)
            subst hA'
            have hC1' : C.size = (L id).cap * sz := hC1
            have hbound : (off * sz + len * sz) + news.length ≤ C.size := by
              rw [hC1', hy.1, ← Nat.add_mul, ← Nat.add_mul]; exact Nat.mul_le_mul_right _ (by omega)
            have hst := run_storeAll (P := P) hb2 hbound hy.one
            have hrun := hroom (some ⟨b, off * sz, none⟩) len c (w.setCells b (off * sz + len * sz) news) (by omega) (by simp only [add_none]; exact hst)
            obtain ⟨e1, e2, e3⟩ := hr.storeInto (k' := .rows sz g (els.take (off + len) ++ (ys ++ els.drop (off + (len + ys.length))))) hget rfl hbk hb2 (o := off * sz + len * sz) (vs := news) hbound (fun C' z1 z2 hext z3 => by
              have hLid : (envOf (w.setCells b (off * sz + len * sz) news) ((full h s).set id (.rows sz g (els.take (off + len) ++ (ys ++ els.drop (off + (len + ys.length)))))) (updL L id (L id))).L id = L id := by show updL L id (L id) id = _; rw [updL_self]
              refine ⟨by rw [hLid]; exact hg1, ⟨by rw [hLid]; exact hg2, hg3⟩, ?_⟩
              rw [hLid, hbk]
              have hl1 : (els.take (off + len)).length = off + len := by simp; omega
              refine ⟨T, C', z3, by rw [z1]; exact hC1, ?_, fun i el hi => ?_⟩
              · have : els.length ≤ (L id).cap := hC2
                simp; omega
              · by_cases hin : off + len ≤ i ∧ i < off + len + ys.length
                · rw [List.getElem?_append_right (by omega), hl1, List.getElem?_append_left (by omega)] at hi
                  obtain ⟨q1, q2⟩ := hy.2 _ el hi
                  refine ⟨q1, fun j gv hj => ?_⟩
                  obtain ⟨uu, u1, u2⟩ := q2 j gv hj
                  have hjs : j < sz := by rw [← q1]; exact (List.getElem?_eq_some_iff.1 hj).1
                  refine ⟨uu, ?_, u2.mono hext⟩
                  have hlow : (off + len) * sz ≤ i * sz := Nat.mul_le_mul_right _ hin.1
                  have hhigh : i * sz + j < (off + len + ys.length) * sz := mul_lt_row hin.2 hjs
                  rw [Nat.add_mul] at hlow
                  rw [Nat.add_mul, Nat.add_mul] at hhigh
                  rw [z2, if_pos (by rw [hy.1]; omega), ← u1]
                  congr 1
                  rw [Nat.sub_mul, Nat.add_mul]; omega
                · have hcs : els[i]? = some el := by
                    by_cases hlo : i < off + len
                    · rw [List.getElem?_append_left (by omega), List.getElem?_take_of_lt hlo] at hi; exact hi
                    · rw [List.getElem?_append_right (by omega), hl1, List.getElem?_append_right (by omega), List.getElem?_drop] at hi
                      rw [← hi]; congr 1; omega
                  obtain ⟨q1, q2⟩ := hC3 i el hcs
                  refine ⟨q1, fun j gv hj => ?_⟩
                  obtain ⟨uu, u1, u2⟩ := q2 j gv hj
                  have hjs : j < sz := by rw [← q1]; exact (List.getElem?_eq_some_iff.1 hj).1
                  refine ⟨uu, ?_, u2.mono hext⟩
                  rw [z2, if_neg]
                  · exact u1
                  · rw [hy.1]
                    rintro ⟨y1, y2⟩
                    have hio : i < off + len ∨ off + len + ys.length ≤ i := by omega
                    rcases hio with hio | hio
                    · have := mul_lt_row hio hjs
                      rw [Nat.add_mul] at this; omega
                    · have := Nat.mul_le_mul_right sz hio
                      rw [Nat.add_mul, Nat.add_mul] at this; omega)
            refine ⟨⟨_, _, _, hrun, ?_, ?_, ?_, e3⟩, setB_t _ _ _ _⟩ <;> rw [full_setB]
            · refine .ms (by simpa [envOf] using hid) ?_ ?_ rfl (fun _ => ?_)
              · show 0 < (updL L id (L id) id).gen; rw [updL_self]; exact hg0
              · show g ≤ (updL L id (L id) id).gen; rw [updL_self, hg1']; exact Nat.le_refl _
              · show MsOk (updL L id (L id) id) _ _ _ _; rw [updL_self]
                unfold MsOk; rw [hbk]
                exact ⟨_, c, rfl, hoc, by omega, .inl rfl⟩
            · exact e1
            · exact e2
        · -- it may go on in place, or elsewhere
          rename_i hfit
          simp at he
          obtain ⟨⟨rfl, hle, hrm⟩, rfl, rfl, rfl⟩ := he
          have hrm' : len + ys.length ≤ 140737488355328 ∧ (len + ys.length) * bytes ≤ 140737488355328 := by simpa [room] using hrm
          -- the elements that stay
          have hb' : (envOf w (full h s) L).L id = L id := rfl
          have stay : ∀ (k' : Blk) (lc : Lc), k' = .rows sz (g + 1) (els.take len ++ ys) → True := fun _ _ _ => trivial
          cases hbk : (L id).blk with
          | none =>
            rw [hb', hbk] at hrow
            obtain ⟨rfl, hcap0⟩ := hrow
            unfold MsOk at hm
            rw [hbk] at hm
            obtain ⟨rfl, _, rfl⟩ := hm
            have hrun := hgrow none 0 0 [] (by omega) (by omega) hrm'.2 (fun w1 _ => by simp [Builtin.firstCells])
            have hfr := fresh (0 + ys.length) 0 [] [] hempty (by simp)
            obtain ⟨e1, e2⟩ := hr.turn (w' := grownW w (0 + ys.length) 0 e z [] news) (k' := .rows sz (g + 1) ([] ++ ys)) hget rfl ⟨some w.heap.size, g + 1, grownCap w (0 + ys.length) 0 e, false⟩ rfl rfl rfl (hgrows _ _ _).size (fun b hb _ => (hgrows _ _ _).old b hb)
              (.inr ⟨trivial, hg2', by simp only [hg1']; omega⟩) (by intro b hb; simp at hb; right; omega) (fun hext => by
                have hLid : (envOf (grownW w (0 + ys.length) 0 e z [] news) ((full h s).set id (.rows sz (g + 1) ([] ++ ys))) (updL L id ⟨some w.heap.size, g + 1, grownCap w (0 + ys.length) 0 e, false⟩)).L id = ⟨some w.heap.size, g + 1, grownCap w (0 + ys.length) 0 e, false⟩ := updL_self _ _ _
                refine ⟨by rw [hLid], ⟨by rw [hLid], by omega⟩, ?_⟩
                rw [hLid]
                exact ⟨e, _, (heap_alloc_new w.drew _), hfr.mono hext⟩)
            refine ⟨⟨_, _, updL L id ⟨some w.heap.size, g + 1, grownCap w (0 + ys.length) 0 e, false⟩, hrun, ?_, ?_, ?_, fun j hj hne => ⟨updL_ne _ _ _ (by simpa using hne), (same_grow hr (hgrows _ _ _) [] j hj (by simp)).2⟩⟩, setB_t _ _ _ _⟩ <;> rw [full_setB]
            · simp only [List.take_nil, List.nil_append, Nat.zero_add] at *
              refine .ms (by simpa [envOf] using hid) ?_ ?_ rfl (fun _ => ?_)
              · show 0 < (updL L id _ id).gen; rw [updL_self]; exact Nat.succ_pos _
              · show g + 1 ≤ (updL L id _ id).gen; rw [updL_self]; exact Nat.le_refl _
              · show MsOk (updL L id _ id) _ _ _ _; rw [updL_self]
                exact ⟨_, _, rfl, by simp, by have := grownCap_ge w ys.length 0 e; omega, .inl (by simp)⟩
            · simpa using e1
            · simpa using e2
          | some b =>
            rw [hb', hbk] at hrow
            obtain ⟨T, C, hb2, hC1, hC2, hC3⟩ := hrow
            unfold MsOk at hm
            rw [hbk] at hm
            obtain ⟨A, c, rfl, hoc, hlc, hA⟩ := hm
            simp only [Nat.zero_add, Nat.zero_mul] at hoc hA
            have hC1' : C.size = (L id).cap * sz := hC1
            have hC2' : els.length ≤ (L id).cap := hC2
            have hblt : b < w.heap.size := (Array.getElem?_eq_some_iff.1 hb2).1
            by_cases hin : len + ys.length ≤ c
            · -- in place
              have hA' : A = ⟨b, 0, none⟩ := hA.resolve_right (by omega)
              subst hA'
              have hbound : (0 + len * sz) + news.length ≤ C.size := by
                rw [hC1', hy.1, Nat.zero_add, ← Nat.add_mul]; exact Nat.mul_le_mul_right _ (by omega)
              have hst := run_storeAll (P := P) hb2 hbound hy.one
              have hrun := hroom (some ⟨b, 0, none⟩) len c (w.setCells b (0 + len * sz) news) hin (by simp only [add_none]; exact hst)
              obtain ⟨C', z3, z1, z2, z4, z5, z6, z7, z8⟩ := setCells_heap b T (0, 0) news (0 + len * sz) w C hb2 hbound
              have hl1 : (els.take len).length = len := by simp; omega
              obtain ⟨e1, e2⟩ := hr.turn (w' := w.setCells b (0 + len * sz) news) (k' := .rows sz (g + 1) (els.take len ++ ys)) hget rfl ⟨some b, g + 1, (L id).cap, false⟩ z5 z6 z7 (by rw [z8]; exact Nat.le_refl _) (fun b' hb' hne => z4 b' (fun e => hne (by rw [e]; exact hbk)))
                (.inr ⟨trivial, hg2', by simp only [hg1']; omega⟩) (by intro b' hb'; simp at hb'; left; rw [← hb']; exact hbk) (fun hext => by
                  have hLid : (envOf (w.setCells b (0 + len * sz) news) ((full h s).set id (.rows sz (g + 1) (els.take len ++ ys))) (updL L id ⟨some b, g + 1, (L id).cap, false⟩)).L id = ⟨some b, g + 1, (L id).cap, false⟩ := updL_self _ _ _
                  refine ⟨by rw [hLid], ⟨by rw [hLid], by omega⟩, ?_⟩
                  rw [hLid]
                  refine ⟨T, C', z3, by rw [z1]; exact hC1, ?_, fun i el hi => ?_⟩
                  · simp; omega
                  · by_cases hii : len ≤ i
                    · rw [List.getElem?_append_right (by omega), hl1] at hi
                      obtain ⟨q1, q2⟩ := hy.2 _ el hi
                      have hil : i - len < ys.length := (List.getElem?_eq_some_iff.1 hi).1
                      refine ⟨q1, fun j gv hj => ?_⟩
                      obtain ⟨uu, u1, u2⟩ := q2 j gv hj
                      have hjs : j < sz := by rw [← q1]; exact (List.getElem?_eq_some_iff.1 hj).1
                      refine ⟨uu, ?_, u2.mono hext⟩
                      have hlow : len * sz ≤ i * sz := Nat.mul_le_mul_right _ hii
                      have hhigh : i * sz + j < (len + ys.length) * sz := mul_lt_row (by omega) hjs
                      rw [Nat.add_mul] at hhigh
                      rw [z2, if_pos (by rw [hy.1]; omega), ← u1]
                      congr 1
                      rw [Nat.sub_mul]; omega
                    · rw [List.getElem?_append_left (by omega), List.getElem?_take_of_lt (by omega)] at hi
                      obtain ⟨q1, q2⟩ := hC3 i el hi
                      refine ⟨q1, fun j gv hj => ?_⟩
                      obtain ⟨uu, u1, u2⟩ := q2 j gv hj
                      have hjs : j < sz := by rw [← q1]; exact (List.getElem?_eq_some_iff.1 hj).1
                      refine ⟨uu, ?_, u2.mono hext⟩
                      rw [z2, if_neg]
                      · exact u1
                      · rintro ⟨y1, y2⟩
                        have := mul_lt_row (show i < len by omega) hjs
                        omega)
              refine ⟨⟨_, _, updL L id ⟨some b, g + 1, (L id).cap, false⟩, hrun, ?_, ?_, ?_, fun j hj hne => ⟨updL_ne _ _ _ (by simpa using hne), fun ⟨xx, hx', lx⟩ b' hb' => z4 b' (fun e => ?_)⟩⟩, setB_t _ _ _ _⟩
              · rw [full_setB]
                refine .ms (by simpa [envOf] using hid) ?_ ?_ rfl (fun _ => ?_)
                · show 0 < (updL L id _ id).gen; rw [updL_self]; exact Nat.succ_pos _
                · show g + 1 ≤ (updL L id _ id).gen; rw [updL_self]; exact Nat.le_refl _
                · show MsOk (updL L id _ id) _ _ _ _; rw [updL_self]
                  exact ⟨_, c, rfl, by simp; omega, by omega, .inl (by simp)⟩
              · rw [full_setB]; exact e1
              · rw [full_setB]; exact e2
              · subst e
                exact hne (by simp [hr.inj j id b' xx _ hx' hget lx rfl hb' hbk])
            · -- elsewhere
              have holds : NewIs (envOf w (full h s) L) sz (els.take len) ((C.toList.take (len * sz))) := by
                refine ⟨?_, fun i el hi => ?_⟩
                · have : len * sz ≤ (L id).cap * sz := Nat.mul_le_mul_right _ (by omega)
                  simp only [List.length_take, Array.length_toList]
                  rw [hC1', Nat.min_eq_left this, Nat.min_eq_left hle]
                · rw [List.getElem?_take] at hi
                  split at hi
                  · rename_i hilt
                    obtain ⟨q1, q2⟩ := hC3 i el hi
                    refine ⟨q1, fun j gv hj => ?_⟩
                    obtain ⟨uu, u1, u2⟩ := q2 j gv hj
                    have hjs : j < sz := by rw [← q1]; exact (List.getElem?_eq_some_iff.1 hj).1
                    refine ⟨uu, ?_, u2⟩
                    rw [List.getElem?_take_of_lt (mul_lt_row hilt hjs)]
                    simpa using u1
                  · cases hi
              have hrun := hgrow (some A) len c (C.toList.take (len * sz)) hin (by omega) hrm'.2 (fun w1 hw1 => by
                by_cases hc0 : c = 0
                · have hl0 : len = 0 := by omega
                  subst hl0
                  simp [Builtin.firstCells, loadCells, loadCellsFrom]
                · have hA' : A = ⟨b, 0, none⟩ := hA.resolve_right hc0
                  subst hA'
                  refine run_firstCells_some (P := P) w1 sz len ⟨b, 0, none⟩ len c _ ?_ (fun j q hj => ?_)
                  · have : len * sz ≤ (L id).cap * sz := Nat.mul_le_mul_right _ (by omega)
                    simp only [List.length_take, Array.length_toList]
                    rw [hC1', Nat.min_eq_left this]
                  · rw [add_none]
                    rw [List.getElem?_take] at hj
                    split at hj
                    · have hb2' : w.heap[b]? = some (.cells C T (0, 0)) := hb2
                      simp only [World.cell?, hw1, hb2', Nat.zero_add, Option.isSome_none, Bool.false_eq_true, if_false]
                      simpa using hj
                    · cases hj)
              have hfr := fresh (len + ys.length) c (C.toList.take (len * sz)) (els.take len) holds (by simp; omega)
              obtain ⟨e1, e2⟩ := hr.turn (w' := grownW w (len + ys.length) c e z (C.toList.take (len * sz)) news) (k' := .rows sz (g + 1) (els.take len ++ ys)) hget rfl ⟨some w.heap.size, g + 1, grownCap w (len + ys.length) c e, false⟩ rfl rfl rfl (hgrows _ _ _).size (fun b hb _ => (hgrows _ _ _).old b hb)
                (.inr ⟨trivial, hg2', by simp only [hg1']; omega⟩) (by intro b hb; simp at hb; right; omega) (fun hext => by
                  have hLid : (envOf (grownW w (len + ys.length) c e z (C.toList.take (len * sz)) news) ((full h s).set id (.rows sz (g + 1) (els.take len ++ ys))) (updL L id ⟨some w.heap.size, g + 1, grownCap w (len + ys.length) c e, false⟩)).L id = ⟨some w.heap.size, g + 1, grownCap w (len + ys.length) c e, false⟩ := updL_self _ _ _
                  refine ⟨by rw [hLid], ⟨by rw [hLid], by omega⟩, ?_⟩
                  rw [hLid]
                  exact ⟨e, _, (heap_alloc_new w.drew _), hfr.mono hext⟩)
              refine ⟨⟨_, _, updL L id ⟨some w.heap.size, g + 1, grownCap w (len + ys.length) c e, false⟩, hrun, ?_, ?_, ?_, fun j hj hne => ⟨updL_ne _ _ _ (by simpa using hne), (same_grow hr (hgrows _ _ _) [] j hj (by simp)).2⟩⟩, setB_t _ _ _ _⟩ <;> rw [full_setB]
              · refine .ms (by simpa [envOf] using hid) ?_ ?_ rfl (fun _ => ?_)
                · show 0 < (updL L id _ id).gen; rw [updL_self]; exact Nat.succ_pos _
                · show g + 1 ≤ (updL L id _ id).gen; rw [updL_self]; exact Nat.le_refl _
                · show MsOk (updL L id _ id) _ _ _ _; rw [updL_self]
                  exact ⟨_, _, rfl, by simp, grownCap_ge _ _ _ _, .inl (by simp)⟩
              · exact e1
              · exact e2
    · cases he

end
end Go.AM
