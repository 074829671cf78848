/- The operations that leave memory as it is, all of them. -/
import Derived.Test.YtahjgmldkbbpaaaAMPure
set_option linter.unusedSimpArgs false
set_option linter.unusedVariables false
namespace Go.AM
open Go

theorem applyM_length (h : List Blk) : ∀ m : List (Nat × Blk), (applyM h m).length = h.length
  | [] => rfl
  | (a, v) :: t => by simp [applyM, applyM_length h t]

theorem full_length (h : List Blk) (s : St) : (full h s).length = s.next h := by simp [full, applyM_length, St.next]

theorem applyM_get (h : List Blk) (i : Nat) (hi : i < h.length) : ∀ m : List (Nat × Blk), (applyM h m)[i]? = match lookM m i with | some b => some b | none => h[i]?
  | [] => rfl
  | (a, v) :: t => by
    simp only [applyM, lookM]
    by_cases e : a = i
    · subst e
      simp [applyM_length, hi]
    · rw [if_neg e, List.getElem?_set_ne e]
      exact applyM_get h i hi t

theorem getB_full (h : List Blk) (s : St) (i : Nat) : (full h s)[i]? = getB h s i := by
  unfold full getB
  split
  · rename_i hi
    rw [List.getElem?_append_left (by rw [applyM_length]; exact hi)]
    exact applyM_get h i hi s.m
  · rename_i hi
    rw [List.getElem?_append_right (by rw [applyM_length]; omega), applyM_length]

/-- A value's cells and its model's. -/
theorem AR.crel {E : Env} {cs : List AV} {C : Value} (h : AR E (.agg cs) C) : ∃ xs, C = .agg xs ∧ CRel E cs xs ∧ ∀ (j : Nat) (v : Value), xs[j]? = some v → v.oneCell' = true := by
  cases h with | agg hn h h1 => exact ⟨_, rfl, ⟨hn, h⟩, h1⟩

theorem sub_ok {E : Env} {agg : Bool} {n : Nat} {cs : List AV} {v : AV} {xs : Array Value} (h : sub agg n cs = some v) (hc : CRel E cs xs) (h1 : ∀ (j : Nat) (u : Value), xs[j]? = some u → u.oneCell' = true) :
    xs.size = n ∧ AR E v (mkV agg xs) := by
  unfold sub at h
  split at h
  · rename_i hl
    refine ⟨by rw [← hc.1]; exact hl, ?_⟩
    unfold one at h
    cases agg
    · simp only [Bool.false_eq_true, if_false] at h
      match cs, h, hc with
      | [c], h, hc =>
        simp at h
        subst h
        have h0 := hc.1
        simp at h0
        have : xs[0]? = some (xs.getD 0 Go.undef) := by simp [← h0]
        exact hc.2 0 _ _ rfl this
    · simp at h
      subst h
      exact .agg hc.1 hc.2 h1
  · cases h

theorem run_field {P : Program} {t : TypeId} {i : Nat} {fl : Field} (hf : fieldT P t i = some fl) (xs : Array Value) (w : World) :
    (Instr.field t (.agg xs) i).run P w = (part fl.type xs fl.offset).run P w := by
  unfold fieldT at hf
  cases hu : P.underlying t with
  | none => simp [hu] at hf
  | some u =>
    cases u <;> simp [hu] at hf
    rename_i fs
    unfold Instr.field
    rw [Sem.run_bind, run_underlying hu w]
    simp only [Result.andThen_ok]
    rw [hf]
    simp only [asAgg, pure_bind]

theorem run_fieldAt {P : Program} {t : TypeId} {i : Nat} {fl : Field} {n : Nat} (hf : fieldT P t i = some fl) (hs : szT P fl.type = some n) (hn : n ≠ 0) (b o : Nat) (w : World) :
    (Instr.fieldAt t (.pointer (some ⟨b, o, none⟩)) i).run P w = .ok (.pointer (some ⟨b, o + fl.offset, none⟩)) w := by
  unfold fieldT at hf
  cases hu : P.underlying t with
  | none => simp [hu] at hf
  | some u =>
    cases u <;> simp [hu] at hf
    rename_i fs
    unfold Instr.fieldAt
    rw [Sem.run_bind, run_underlying hu w]
    have hadd : (⟨b, o, none⟩ : Addr).add fl.offset = ⟨b, o + fl.offset, none⟩ := by unfold Addr.add; split <;> simp_all
    simp only [Result.andThen_ok, hf, Instr.sureAddr, pure_bind, Sem.run_bind, fieldPlace, run_sizeOf hs, hn, if_false, Sem.run_pure, hadd, Sem.run_ite]

theorem run_loadVar_cells {P : Program} {t : TypeId} {ag : Bool} {n : Nat} (ha : aggT P t = some ag) (hs : szT P t = some n) (hc : ag = true ∨ n = 1) (b o : Nat) (vs : Array Value) (w : World) (hn : vs.size = n)
    (hv : ∀ (j : Nat) (v : Value), vs[j]? = some v → w.cell? ⟨b, o + j, none⟩ = some v) : (loadVar t ⟨b, o, none⟩).run P w = .ok (mkV ag vs) w := by
  have hadd : ∀ j, (⟨b, o, none⟩ : Addr).add j = ⟨b, o + j, none⟩ := fun j => by unfold Addr.add; split <;> simp_all
  unfold loadVar
  rw [Sem.run_bind, run_isAgg ha]
  cases ag
  · have h1 : n = 1 := by simpa using hc
    have h0 : vs[0]? = some (vs.getD 0 Go.undef) := by rw [h1] at hn; simp [hn]
    have h2 := hv 0 _ h0
    simp only [Nat.add_zero] at h2
    simp only [Result.andThen_ok, Bool.false_eq_true, if_false, run_load, h2, mkV]
  · have hl := run_loadCells_list (P := P) w ⟨b, o, none⟩ vs.toList (fun j v h => by rw [hadd]; exact hv j v (by simpa using h))
    simp only [Array.length_toList, Array.toArray_toList] at hl
    simp only [Result.andThen_ok, if_true, Sem.run_bind, run_sizeOf hs, ← hn, hl, Sem.run_pure, mkV]

theorem Sees.cell {E : Env} {rs : List Nat} {w' : World} (h : Sees E rs w') {b : Nat} (hb : b < E.w.heap.size) (hO : ¬ E.O b ∨ ∃ id, id ∈ rs ∧ (E.L id).blk = some b) (o : Nat) :
    w'.cell? ⟨b, o, none⟩ = E.w.cell? ⟨b, o, none⟩ := by simp [World.cell?, h b hb hO]

theorem range_get {n j : Nat} {f : Nat → Value} {u : Value} (h : (((List.range n).map f).toArray)[j]? = some u) : j < n ∧ u = f j := by
  simp only [List.getElem?_toArray, List.getElem?_map] at h
  by_cases hj : j < n
  · simp [List.getElem?_range hj] at h; exact ⟨hj, h.symm⟩
  · simp [List.getElem?_eq_none (by simpa using hj : (List.range n).length ≤ j)] at h

theorem load_cp {P : Program} {E : Env} {t : TypeId} {ag : Bool} {n : Nat} (ha : aggT P t = some ag) (hs : szT P t = some n) (hc : ag = true ∨ n = 1) {cs : List GV} {p : Value} {v : AV}
    (hp : AR E (.cp cs) p) (h : sub ag n ((cs.take n).map .g) = some v) : ∃ cv, AR E v cv ∧ ∀ w', Sees E [] w' → (Instr.loadAt t p).run P w' = .ok cv w' := by
  cases hp with
  | @cp _ b o c hb hO hcc hg =>
    have hlen : (cs.take n).length = n := by
      unfold sub at h; split at h
      · rename_i hq; simpa using hq
      · cases h
    have hlen2 : n ≤ cs.length := by simp at hlen; omega
    let vs : Array Value := ((List.range n).map c).toArray
    have hvs : ∀ (j : Nat) (u : Value), vs[j]? = some u → j < n ∧ u = c j := fun j u hj => range_get hj
    have hcs : ∀ j, j < n → ∃ a, cs[j]? = some a := fun j hj => ⟨cs[j], by simp [List.getElem?_eq_getElem (show j < cs.length by omega)]⟩
    have hcr : CRel E ((cs.take n).map .g) vs := by
      refine ⟨by simp [vs]; omega, fun j a u h1 h2 => ?_⟩
      obtain ⟨hj, rfl⟩ := hvs j u h2
      rw [List.getElem?_map, List.getElem?_take_of_lt hj] at h1
      cases hq : cs[j]? with
      | none => simp [hq] at h1
      | some a' => simp [hq] at h1; subst h1; exact .g (hg j a' hq)
    have h1 : ∀ (j : Nat) (u : Value), vs[j]? = some u → u.oneCell' = true := fun j u hj => by
      obtain ⟨hj', rfl⟩ := hvs j u hj
      obtain ⟨a, hq⟩ := hcs j hj'
      exact (hg j a hq).one
    obtain ⟨hsz, hv⟩ := sub_ok h hcr h1
    refine ⟨_, hv, fun w' hw => ?_⟩
    simp only [Instr.loadAt, Instr.sureAddr, pure_bind]
    refine run_loadVar_cells ha hs hc b o vs w' hsz (fun j u hj => ?_)
    obtain ⟨hj', rfl⟩ := hvs j u hj
    obtain ⟨a, hq⟩ := hcs j hj'
    rw [hw.cell hb (.inl hO)]
    exact hcc j a hq

theorem load_row {P : Program} {E : Env} {t : TypeId} {ag : Bool} {n : Nat} (ha : aggT P t = some ag) (hs : szT P t = some n) (hc : ag = true ∨ n = 1) {b o : Nat} {v : AV} {as : List AV} {T : TypeId} {fr : Nat × Nat} {C : Array Value}
    (hb : E.w.heap[b]? = some (.cells C T fr)) (hcs : ∀ (j : Nat) (a : AV), as[j]? = some a → ∃ u, C[o + j]? = some u ∧ AR E a u ∧ u.oneCell' = true)
    (rs : List Nat) (hO : ¬ E.O b ∨ ∃ id, id ∈ rs ∧ (E.L id).blk = some b)
    (h : sub ag n as = some v) : ∃ cv, AR E v cv ∧ ∀ w', Sees E rs w' → (Instr.loadAt t (.pointer (some ⟨b, o, none⟩))).run P w' = .ok cv w' := by
  have hlen : as.length = n := by
    unfold sub at h; split at h
    · assumption
    · cases h
  have hlt : b < E.w.heap.size := (Array.getElem?_eq_some_iff.1 hb).1
  let vs : Array Value := ((List.range n).map fun j => C.getD (o + j) Go.undef).toArray
  have hvs : ∀ (j : Nat) (u : Value), vs[j]? = some u → j < n ∧ u = C.getD (o + j) Go.undef := fun j u hj => range_get hj
  have hget : ∀ j, j < n → ∃ a, as[j]? = some a ∧ C[o + j]? = some (C.getD (o + j) Go.undef) ∧ AR E a (C.getD (o + j) Go.undef) ∧ (C.getD (o + j) Go.undef).oneCell' = true := fun j hj => by
    have hq : as[j]? = some as[j] := List.getElem?_eq_getElem (by omega)
    obtain ⟨u, h1, h2, h3⟩ := hcs j _ hq
    have : C.getD (o + j) Go.undef = u := by simp [Array.getD_eq_getD_getElem?, h1]
    exact ⟨_, hq, by rw [this]; exact h1, by rw [this]; exact h2, by rw [this]; exact h3⟩
  have hcr : CRel E as vs := by
    refine ⟨by simp [vs, hlen], fun j a u h1 h2 => ?_⟩
    obtain ⟨hj, rfl⟩ := hvs j u h2
    obtain ⟨a', e1, _, e3, _⟩ := hget j hj
    rw [h1] at e1; cases e1; exact e3
  have h1 : ∀ (j : Nat) (u : Value), vs[j]? = some u → u.oneCell' = true := fun j u hj => by
    obtain ⟨hj', rfl⟩ := hvs j u hj
    obtain ⟨_, _, _, _, e4⟩ := hget j hj'
    exact e4
  obtain ⟨hsz, hv⟩ := sub_ok h hcr h1
  refine ⟨_, hv, fun w' hw => ?_⟩
  simp only [Instr.loadAt, Instr.sureAddr, pure_bind]
  refine run_loadVar_cells ha hs hc b o vs w' hsz (fun j u hj => ?_)
  obtain ⟨hj', rfl⟩ := hvs j u hj
  obtain ⟨_, _, e2, _, _⟩ := hget j hj'
  rw [hw.cell hlt hO]
  simpa [World.cell?, hb] using e2

end Go.AM
