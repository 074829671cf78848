/- The operations that leave memory as it is, all of them: the theorem. -/
import Derived.Test.YtahjgmldkbbpaaaAMPure5
set_option linter.unusedSimpArgs false
set_option linter.unusedVariables false
namespace Go.AM
open Go

section
variable {P : Program} {h : List Blk} {s : St} {a : Act} {w : World} {L : Nat → Lc} {v : AV} {rs : List Nat} {drw : Option Nat}

theorem one_map {x : Option AV} (he : x.map (·, ([] : List Nat)) = some (v, rs)) : x = some v ∧ rs = [] := by
  obtain ⟨z, h1, h2⟩ := map_some_inv he
  cases h2
  exact ⟨h1, rfl⟩

theorem mkV_true (xs : Array Value) : mkV true xs = .agg xs := rfl

theorem read_run {P : Program} {t : TypeId} {b : Bool} {n : Nat} (ha : aggT P t = some b) (hs : szT P t = some n) (xs : Array Value) (off : Nat) (w : World) (hsz : (xs.extract off (off + n)).size = n) (hn : b = true ∨ 0 < n) :
    (part t xs off).run P w = .ok (mkV b (xs.extract off (off + n))) w := by
  rw [run_part ha hs]
  cases b
  · have h1 : 0 < n := by simpa using hn
    have hlt : off < xs.size := by simp at hsz; omega
    simp only [Bool.false_eq_true, if_false, Array.getElem?_eq_getElem hlt, mkV]
    congr 1
    rw [Array.getD_eq_getD_getElem?, Array.getElem?_extract, if_pos (by omega)]
    simp [hlt]
  · simp [mkV]

theorem agg_pos {E : Env} {ag : Bool} {n : Nat} {cs : List AV} {v : AV} (h : sub ag n cs = some v) : ag = true ∨ 0 < n := by
  unfold sub at h
  split at h
  · cases ag
    · unfold one at h
      simp at h
      match cs, h with
      | [c], _ => rename_i hl; simp at hl; right; omega
    · exact .inl rfl
  · cases h

theorem y_load (hr : HR w (full h s) L) (ht : TR (envOf w (full h s) L) a s.t) {dst : Option Tmp} {ty : TypeId} {pos : String} {after : Array Edge} {gd : Option (Nat × Bool)} {t : TypeId} {p : Operand} {X : Opd} {ag : Bool} {n : Nat} (ha : aggT P t = some ag) (hs : szT P t = some n) (hc : ag = true ∨ n = 1)
    (hx : cOpd p = some X) (he : evP h s (.load ag n X) = some (v, rs)) : Yl P (envOf w (full h s) L) ⟨dst, .load t p, ty, pos, after, gd⟩ a v rs := by
  simp only [evP] at he
  have fin : (∃ cv, AR (envOf w (full h s) L) v cv ∧ ∀ w', Sees (envOf w (full h s) L) rs w' → (Instr.loadAt t (a.eval p)).run P w' = .ok cv w') → Yl P (envOf w (full h s) L) ⟨dst, .load t p, ty, pos, after, gd⟩ a v rs := by
    rintro ⟨cv, h1, h2⟩
    exact ⟨cv, h1, fun w' hw => by simp only [execOp]; rw [Sem.run_bind, h2 w' (hw rfl)]; rfl⟩
  apply fin
  cases hX : val s X with
  | none => simp [hX] at he
  | some q =>
    have hq := cOpd_ok ht hx hX
    simp only [hX] at he
    split at he
    · -- a variable
      rename_i id o e
      simp at e
      subst e
      cases hB : getB h s id with
      | none => simp [hB] at he
      | some k =>
        cases k <;> simp [hB] at he
        rename_i cs
        obtain ⟨v', hsub, rfl, rfl⟩ := he
        have hk := hr.blk id _ (by rw [getB_full]; exact hB)
        obtain ⟨_, b, T, C, h1, h2, h3, h4⟩ := hk
        generalize a.eval p = cp at hq ⊢
        cases hq with
        | ptr hid hgen hb =>
          rw [hb] at h1; cases h1
          refine load_row (o := o) ha hs hc h2 (fun j x hj => ?_) [id] (.inr ⟨id, by simp, hb⟩) hsub
          rw [List.getElem?_take] at hj
          split at hj
          · rw [List.getElem?_drop] at hj; exact h4 _ _ hj
          · cases hj
    · -- memory that is only read
      rename_i cs e
      simp at e
      subst e
      obtain ⟨hsub, rfl⟩ := one_map he
      exact load_cp ha hs hc hq hsub
    · -- a row's element
      rename_i id g sz i o e
      simp at e
      subst e
      cases hB : getB h s id with
      | none => simp [hB] at he
      | some k =>
        cases k <;> simp [hB] at he
        rename_i sz' g' els
        obtain ⟨⟨rfl, rfl⟩, he⟩ := he
        cases hi : els[i]? with
        | none => simp [hi] at he
        | some el =>
          simp [hi] at he
          obtain ⟨v', hsub, rfl, rfl⟩ := he
          have hk := hr.blk id _ (by rw [getB_full]; exact hB)
          obtain ⟨h0, h1, h2⟩ := hk
          generalize a.eval p = cp at hq ⊢
          cases hq with
          | rp hid hg0 hle hone hm =>
            obtain ⟨b, hb, rfl⟩ := hm h0.symm
            rw [hb] at h2
            obtain ⟨T, C, h3, h4⟩ := h2
            refine load_row (o := i * sz + o) ha hs hc h3 (fun j x hj => ?_) [id] (.inr ⟨id, by simp, hb⟩) hsub
            rw [List.getElem?_take] at hj
            split at hj
            · rw [List.getElem?_drop, List.getElem?_map] at hj
              cases hq : el[o + j]? with
              | none => simp [hq] at hj
              | some y =>
                simp [hq] at hj
                subst hj
                obtain ⟨u, hu1, hu2⟩ := (h4.2.2 i el hi).2 (o + j) y hq
                exact ⟨u, by rw [Nat.add_assoc]; exact hu1, .g hu2, hu2.one⟩
            · cases hj
    · cases he

theorem y_easy {o : Oper} {E : Env} {cv : Value} (h1 : AR E v cv) (h2 : ∀ w', (execOp a.eval o).run P w' = .ok (.value cv) w') : Yl P E o a v rs := ⟨cv, h1, fun w' _ => h2 w'⟩

theorem cur_ok (hr : HR w (full h s) L) {id g : Nat} (hc : cur h s id g = true) : g = ((envOf w (full h s) L).L id).gen := by
  unfold cur at hc
  split at hc
  · rename_i hB
    have hk := hr.blk id _ (by rw [getB_full]; exact hB)
    exact (beq_iff_eq.mp hc).trans hk.1.symm
  · rename_i hB
    have hk := hr.blk id _ (by rw [getB_full]; exact hB)
    exact (beq_iff_eq.mp hc).trans hk.1.symm
  · cases hc

theorem ms_ok (hr : HR w (full h s) L) {id g sz off len : Nat} {c : Value} (hc : cur h s id g = true) (hx : AR (envOf w (full h s) L) (.ms id g sz off len) c) :
    id < (full h s).length ∧ 0 < (L id).gen ∧ g = (L id).gen ∧ MsOk (L id) sz off len c := by
  cases hx with
  | ms hid h0 hle h1 hm => exact ⟨hid, h0, cur_ok hr hc, hm (cur_ok hr hc)⟩

theorem MsOk.slice {lc : Lc} {sz off len : Nat} {v : Value} (h : MsOk lc sz off len v) : ∃ A cap, v = .slice A len cap ∧ len ≤ cap := by
  unfold MsOk at h
  cases hb : lc.blk with
  | none => rw [hb] at h; obtain ⟨rfl, _, rfl⟩ := h; exact ⟨_, _, rfl, by simp⟩
  | some b => rw [hb] at h; obtain ⟨A, c, rfl, _, h2, _⟩ := h; exact ⟨_, _, rfl, h2⟩

theorem len_ok (hr : HR w (full h s) L) {x : AV} {c : Value} {n : Nat} (hl : lenV h s x = some n) (hx : AR (envOf w (full h s) L) x c) : ∃ A cap, c = .slice A n cap := by
  unfold lenV at hl
  split at hl
  · cases hl
    have := hx.inv_g; cases this
    · exact ⟨_, _, rfl⟩
    · exact ⟨_, _, rfl⟩
  · cases hl; cases hx.inv_g; exact ⟨_, _, rfl⟩
  · split at hl
    · cases hl
      rename_i hc
      obtain ⟨A, cap, e, _⟩ := (ms_ok hr hc hx).2.2.2.slice
      exact ⟨A, cap, e⟩
    · cases hl
  · cases hl

theorem run_indexAt_slice {t e : TypeId} {sz : Nat} (hu : P.underlying t = some (.slice e)) (hs : szT P e = some sz) (A : Addr) (len cap : Nat) (k : IntKind) (n : Int) (h0 : 0 ≤ n) (h1 : n < len) (w : World) :
    (Instr.indexAt t (.slice (some A) len cap) (.int k n)).run P w = .ok (.pointer (some (A.add (n.toNat * sz)))) w := by
  unfold Instr.indexAt
  simp only [asIntOf, pure_bind, Sem.run_bind, run_underlying hu, Result.andThen_ok, Sem.run_pure]
  rw [if_pos ⟨h0, h1⟩]
  simp [run_sizeOf hs]

theorem run_indexAt_array {t e : TypeId} {sz len : Nat} (hu : P.underlying t = some (.array len e)) (hs : szT P e = some sz) (A : Addr) (k : IntKind) (n : Int) (h0 : 0 ≤ n) (h1 : n < len) (w : World) :
    (Instr.indexAt t (.pointer (some A)) (.int k n)).run P w = .ok (.pointer (some (A.add (n.toNat * sz)))) w := by
  unfold Instr.indexAt
  simp only [asIntOf, pure_bind, Sem.run_bind, run_underlying hu, Result.andThen_ok, Sem.run_pure, Instr.sureAddr]
  rw [if_pos ⟨h0, h1⟩]
  simp [run_sizeOf hs]

theorem add_none (b o n : Nat) : (⟨b, o, none⟩ : Addr).add n = ⟨b, o + n, none⟩ := by unfold Addr.add; split <;> simp_all

end
end Go.AM
