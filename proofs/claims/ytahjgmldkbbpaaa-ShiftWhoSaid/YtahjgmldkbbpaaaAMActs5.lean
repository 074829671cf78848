/- The operations that act on memory: the theorem. -/
import Derived.Test.YtahjgmldkbbpaaaAMApp2
set_option linter.unusedSimpArgs false
set_option linter.unusedVariables false
namespace Go.AM
open Go

section
variable {P : Program} {h : List Blk} {s s' : St} {a : Act} {w : World} {L : Nat → Lc} {v : AV} {ws : List Nat} {drw : Option Nat} {nb : Nat}

/-- The cells of a list of rows. -/
theorem NewIs.of {E : Env} {sz : Nat} {ys : List (List GV)} (hsz : ∀ (i : Nat) (el : List GV), ys[i]? = some el → el.length = sz) (f : Nat → Value)
    (hf : ∀ (i : Nat) (el : List GV) (j : Nat) (g : GV), ys[i]? = some el → el[j]? = some g → GR E g (f (i * sz + j))) : NewIs E sz ys ((List.range (ys.length * sz)).map f) := by
  refine ⟨by simp, fun i el hi => ⟨hsz i el hi, fun j g hj => ⟨f (i * sz + j), ?_, hf i el j g hi hj⟩⟩⟩
  have hil : i < ys.length := (List.getElem?_eq_some_iff.1 hi).1
  have hjl : j < sz := by rw [← hsz i el hi]; exact (List.getElem?_eq_some_iff.1 hj).1
  rw [List.getElem?_map, List.getElem?_range (mul_lt_row hil hjl)]; rfl

theorem firstCells_at {sz n : Nat} {b o cap : Nat} {len : Nat} (f : Nat → Value) (w1 : World) (hf : ∀ k, k < n * sz → w1.cell? ⟨b, o + k, none⟩ = some (f k)) :
    (Builtin.firstCells sz n (.slice (some ⟨b, o, none⟩) len cap)).run P w1 = .ok ((List.range (n * sz)).map f).toArray w1 := by
  refine run_firstCells_some (P := P) w1 sz n ⟨b, o, none⟩ len cap _ (by simp) (fun j q hj => ?_)
  rw [add_none]
  rw [List.getElem?_map] at hj
  by_cases hl : j < n * sz
  · rw [List.getElem?_range hl] at hj
    simp at hj
    subst hj
    exact hf j hl
  · rw [List.getElem?_eq_none (by simp; omega)] at hj; cases hj

theorem div_row {k n sz : Nat} (h : k < n * sz) : 0 < sz ∧ k / sz < n ∧ k % sz < sz ∧ k / sz * sz + k % sz = k := by
  have hsz : 0 < sz := by
    rcases Nat.eq_zero_or_pos sz with e | e
    · subst e; simp at h
    · exact e
  exact ⟨hsz, Nat.div_lt_of_lt_mul (by rw [Nat.mul_comm]; exact h), Nat.mod_lt _ hsz, by rw [Nat.mul_comm]; exact Nat.div_add_mod _ _⟩

theorem viewN_ok (hr : HR w (full h s) L) {sz : Nat} {x : AV} {cx : Value} {ys : List (List GV)} (hv : viewN h s sz x = some ys) (hx : AR (envOf w (full h s) L) x cx) :
    ∃ A cap news, cx = .slice A ys.length cap ∧ ys.length ≤ cap ∧ NewIs (envOf w (full h s) L) sz ys news ∧ ∀ w1 : World, w1.heap = w.heap → (Builtin.firstCells sz ys.length cx).run P w1 = .ok news.toArray w1 := by
  have hempty : NewIs (envOf w (full h s) L) sz [] [] := ⟨by simp, by simp⟩
  have hrows : ∀ (id b g sz' off len : Nat) (els : List (List GV)) (T : TypeId) (C : Array Value) (fr : Nat × Nat), sz = sz' → MsOk (L id) sz' off len cx → (L id).blk = some b → w.heap[b]? = some (.cells C T fr) → RowsIn (envOf w (full h s) L) C sz (L id).cap els →
      ((els.drop off).take len).length = len → ∃ A cap news, cx = .slice A ((els.drop off).take len).length cap ∧ ((els.drop off).take len).length ≤ cap ∧ NewIs (envOf w (full h s) L) sz ((els.drop off).take len) news ∧ ∀ w1 : World, w1.heap = w.heap → (Builtin.firstCells sz ((els.drop off).take len).length cx).run P w1 = .ok news.toArray w1 := by
    intro id b g sz' off len els T C fr e hm hbk hb hC hlen
    subst e
    obtain ⟨hC1, hC2, hC3⟩ := hC
    unfold MsOk at hm
    rw [hbk] at hm
    obtain ⟨A, c, rfl, h1, h2, h3⟩ := hm
    have hC2' : els.length ≤ (L id).cap := hC2
    have hget : ∀ i el, ((els.drop off).take len)[i]? = some el → els[off + i]? = some el ∧ i < len := by
      intro i el hi
      rw [List.getElem?_take] at hi
      split at hi
      · rw [List.getElem?_drop] at hi; exact ⟨hi, by assumption⟩
      · cases hi
    by_cases hl0 : len = 0
    · subst hl0
      refine ⟨some A, c, [], by simp, by simp, by simpa using hempty, fun w1 _ => ?_⟩
      simp [Builtin.firstCells, loadCells, loadCellsFrom]
    · have hA : A = ⟨b, off * sz, none⟩ := h3.resolve_right (by omega)
      subst hA
      let f : Nat → Value := fun k => C.getD (off * sz + k) Go.undef
      have hns : NewIs (envOf w (full h s) L) sz ((els.drop off).take len) ((List.range (((els.drop off).take len).length * sz)).map f) := NewIs.of (fun i el hi => (hC3 _ el (hget i el hi).1).1) f (fun i el j g hi hj => by
        obtain ⟨q1, q2⟩ := hC3 _ el (hget i el hi).1
        obtain ⟨u, u1, u2⟩ := q2 j g hj
        have : f (i * sz + j) = u := by
          show C.getD (off * sz + (i * sz + j)) Go.undef = u
          rw [← Nat.add_assoc, ← Nat.add_mul, Array.getD_eq_getD_getElem?, u1]; rfl
        rw [this]; exact u2)
      refine ⟨_, c, _, by rw [hlen], by rw [hlen]; exact h2, hns, fun w1 hw1 => ?_⟩
      refine firstCells_at f w1 (fun k hk => ?_)
      obtain ⟨d1, d2, d3, d4⟩ := div_row hk
      obtain ⟨q1, q2⟩ := hC3 (off + k / sz) _ (hget _ _ (List.getElem?_eq_getElem d2)).1
      obtain ⟨u, u1, u2⟩ := q2 (k % sz) _ (List.getElem?_eq_getElem (by rw [q1]; exact d3))
      have e1 : (off + k / sz) * sz + k % sz = off * sz + k := by rw [Nat.add_mul]; omega
      rw [e1] at u1
      have hb' : w1.heap[b]? = some (.cells C T fr) := by rw [hw1]; exact hb
      show w1.cell? _ = some (C.getD (off * sz + k) Go.undef)
      simp [World.cell?, hb', Array.getD_eq_getD_getElem?, u1]
  unfold viewN at hv
  split at hv
  · rename_i sz' els
    split at hv
    · rename_i e
      subst e
      cases hv
      have hq := hx.inv_g
      cases hq with
      | @sl _ b o cap _ c hcap hb hO hsz hc hg =>
        let f : Nat → Value := fun k => c (k / sz) (k % sz)
        have hmod : ∀ i j, j < sz → (i * sz + j) / sz = i ∧ (i * sz + j) % sz = j := by
          intro i j hj
          have hpos : 0 < sz := by omega
          exact ⟨by rw [Nat.mul_comm, Nat.mul_add_div hpos, Nat.div_eq_of_lt hj, Nat.add_zero], by rw [Nat.mul_comm, Nat.mul_add_mod, Nat.mod_eq_of_lt hj]⟩
        have hns : NewIs (envOf w (full h s) L) sz ys ((List.range (ys.length * sz)).map f) := NewIs.of hsz f (fun i el j g hi hj => by
          have hjs : j < sz := by rw [← hsz i el hi]; exact (List.getElem?_eq_some_iff.1 hj).1
          obtain ⟨m1, m2⟩ := hmod i j hjs
          show GR _ g (c ((i * sz + j) / sz) ((i * sz + j) % sz))
          rw [m1, m2]; exact hg i el j g hi hj)
        refine ⟨_, cap, _, rfl, hcap, hns, fun w1 hw1 => firstCells_at f w1 (fun k hk => ?_)⟩
        obtain ⟨d1, d2, d3, d4⟩ := div_row hk
        have hel := List.getElem?_eq_getElem d2
        have hlk : k % sz < (ys[k / sz]).length := by rw [hsz _ _ hel]; exact d3
        have hj : (ys[k / sz])[k % sz]? = some ((ys[k / sz])[k % sz]'hlk) := List.getElem?_eq_getElem hlk
        have := hc _ _ _ _ hel hj
        rw [Nat.add_assoc, d4] at this
        have hcell : w1.cell? ⟨b, o + k, none⟩ = w.cell? ⟨b, o + k, none⟩ := by simp [World.cell?, hw1]
        rw [hcell]; exact this
      | sl0 _ A cap => exact ⟨A, cap, [], rfl, by simp, hempty, fun w1 _ => by cases A <;> simp [Builtin.firstCells, loadCells, loadCellsFrom]⟩
    · cases hv
  · cases hv
    have hq := hx.inv_g
    cases hq
    exact ⟨none, 0, [], rfl, by simp, hempty, fun w1 _ => by simp [Builtin.firstCells]⟩
  · rename_i id g sz' off len
    split at hv
    · rename_i e
      cases hB : getB h s id with
      | none => simp [hB] at hv
      | some k =>
        have hcur : ∀ (q1 q2 : Nat) (q3 : List (List GV)), (k = .rows q1 q2 q3 ∨ k = .fro q1 q2 q3) → g = q2 → cur h s id g = true := by
          rintro q1 q2 q3 (rfl | rfl) rfl <;> simp [cur, hB]
        have hget : (full h s)[id]? = some k := by rw [getB_full]; exact hB
        have hHB := hr.blk id _ hget
        have fin : ∀ (sz2 g2 : Nat) (els : List (List GV)), g = g2 → (k = .rows sz2 g2 els ∨ k = .fro sz2 g2 els) → sz2 = sz → off + len ≤ els.length → ys = (els.drop off).take len →
            ∃ A cap news, cx = .slice A ys.length cap ∧ ys.length ≤ cap ∧ NewIs (envOf w (full h s) L) sz ys news ∧ ∀ w1 : World, w1.heap = w.heap → (Builtin.firstCells sz ys.length cx).run P w1 = .ok news.toArray w1 := by
          intro sz2 g2 els hg hk hs2 hlen hys
          subst hg hys hs2
          obtain ⟨hid, hg0, hgen, hm⟩ := ms_ok hr (hcur sz2 g els hk rfl) hx
          have hlen' : ((els.drop off).take len).length = len := by simp; omega
          cases hbk : (L id).blk with
          | none =>
            have hels : els = [] := by
              rcases hk with rfl | rfl
              · obtain ⟨_, _, hrow⟩ := hHB; rw [show (envOf w (full h s) L).L id = L id from rfl, hbk] at hrow; exact hrow.1
              · obtain ⟨_, _, hrow⟩ := hHB; rw [show (envOf w (full h s) L).L id = L id from rfl, hbk] at hrow; exact hrow.1
            subst hels
            unfold MsOk at hm
            rw [hbk] at hm
            obtain ⟨rfl, _, rfl⟩ := hm
            exact ⟨none, 0, [], by simp, by simp, by simpa using hempty, fun w1 _ => by simp [Builtin.firstCells]⟩
          | some b =>
            rcases hk with rfl | rfl
            · obtain ⟨_, _, hrow⟩ := hHB
              rw [show (envOf w (full h s) L).L id = L id from rfl, hbk] at hrow
              obtain ⟨T, C, hb, hC⟩ := hrow
              exact hrows id b g sz' off len els T C (0, 0) e hm hbk hb hC hlen'
            · obtain ⟨_, _, hrow⟩ := hHB
              rw [show (envOf w (full h s) L).L id = L id from rfl, hbk] at hrow
              obtain ⟨_, _, T, C, fr, hb, hC⟩ := hrow
              exact hrows id b g sz' off len els T C fr e hm hbk hb hC hlen'
        cases k <;> simp [hB] at hv
        · obtain ⟨⟨h1, h2, h3⟩, h4⟩ := hv; exact fin _ _ _ h1 (.inl rfl) h2 h3 h4.symm
        · obtain ⟨⟨h1, h2, h3⟩, h4⟩ := hv; exact fin _ _ _ h1 (.inr rfl) h2 h3 h4.symm
    · cases hv
  · cases hv

end
end Go.AM
