/- The operations that leave memory as it is, all of them: the theorem. -/
import Derived.Test.YtahjgmldkbbpaaaAMPure3
set_option linter.unusedSimpArgs false
set_option linter.unusedVariables false
namespace Go.AM
open Go

section
variable {P : Program} {h : List Blk} {s : St} {a : Act} {w : World} {L : Nat → Lc} {v : AV} {rs : List Nat}

theorem cOpds_vals {E : Env} (ht : TR E a s.t) : ∀ {xs : List Operand} {Xs : List Opd} {vs : List AV}, cOpds xs = some Xs → vals s Xs = some vs →
    vs.length = xs.length ∧ ∀ (j : Nat) (x : Operand) (v : AV), xs[j]? = some x → vs[j]? = some v → AR E v (a.eval x) := by
  intro xs
  induction xs with
  | nil => intro Xs vs h1 h2; simp [cOpds] at h1; subst h1; simp [vals] at h2; subst h2; simp
  | cons x xs ih =>
    intro Xs vs h1 h2
    simp only [cOpds] at h1
    cases hx : cOpd x with
    | none => simp [hx] at h1
    | some X =>
      cases hxs : cOpds xs with
      | none => simp [hx, hxs] at h1
      | some Ys =>
        simp [hx, hxs] at h1
        subst h1
        simp only [vals] at h2
        cases hv : val s X with
        | none => simp [hv] at h2
        | some u =>
          cases hvs : vals s Ys with
          | none => simp [hv, hvs] at h2
          | some us =>
            simp [hv, hvs] at h2
            subst h2
            obtain ⟨i1, i2⟩ := ih hxs hvs
            refine ⟨by simp [i1], fun j y z hy hz => ?_⟩
            cases j with
            | zero => simp at hy hz; subst hy hz; exact cOpd_ok ht hx hv
            | succ j => exact i2 j y z (by simpa using hy) (by simpa using hz)

theorem toArray_map_get {xs : List Operand} {j : Nat} {u : Value} (h : ((xs.toArray).map a.eval)[j]? = some u) : ∃ x, xs[j]? = some x ∧ u = a.eval x := by
  simp at h
  obtain ⟨x, h1, h2⟩ := h
  exact ⟨x, h1, h2.symm⟩

theorem fold_ok {E : Env} (f : AV → AV → Option AV) (F : Value → Value → Sem Value) (hf : ∀ x y v cx cy, f x y = some v → AR E x cx → AR E y cy → ∃ cv, AR E v cv ∧ ∀ w', (F cx cy).run P w' = .ok cv w') :
    ∀ (vs : List AV) (cvs : List Value) (x v : AV) (cx : Value), foldV f (some x) vs = some v → AR E x cx → vs.length = cvs.length → (∀ (j : Nat) (a : AV) (c : Value), vs[j]? = some a → cvs[j]? = some c → AR E a c) →
      ∃ cv, AR E v cv ∧ ∀ w', (cvs.foldlM F cx).run P w' = .ok cv w' := by
  intro vs
  induction vs with
  | nil => intro cvs x v cx h1 hx hl hr; simp [foldV] at h1; subst h1; cases cvs with
    | nil => exact ⟨cx, hx, fun w' => by simp⟩
    | cons => simp at hl
  | cons y ys ih => intro cvs x v cx h1 hx hl hr; cases cvs with
    | nil => simp at hl
    | cons c cs =>
      simp only [foldV] at h1
      cases hxy : f x y with
      | none => rw [hxy] at h1; cases ys <;> simp [foldV] at h1
      | some z =>
        rw [hxy] at h1
        obtain ⟨cz, hz1, hz2⟩ := hf x y z cx c hxy hx (hr 0 _ _ rfl rfl)
        obtain ⟨cv, k1, k2⟩ := ih cs z v cz h1 hz1 (by simpa using hl) (fun j a c' e1 e2 => hr (j + 1) a c' (by simpa using e1) (by simpa using e2))
        exact ⟨cv, k1, fun w' => by simp [List.foldlM_cons, hz2, k2]⟩

theorem cells_ok {E : Env} {u : AV} {c : Value} {cs : List AV} (h : AR E u c) (hc : u.cellsO = some cs) : CRel E cs c.cells ∧ ∀ (j : Nat) (y : Value), c.cells[j]? = some y → y.oneCell' = true := by
  have single : ∀ (u : AV) (c : Value), AR E u c → c.oneCell' = true → c.cells = #[c] ∧ CRel E [u] #[c] ∧ ∀ (j : Nat) (y : Value), (#[c] : Array Value)[j]? = some y → y.oneCell' = true := by
    intro u c h h1
    refine ⟨by cases c <;> first | rfl | (simp [Value.oneCell'] at h1), ⟨rfl, fun j a v ha hv => ?_⟩, fun j y hy => ?_⟩
    · match j with
      | 0 => simp at ha hv; subst ha hv; exact h
      | j + 1 => simp at ha
    · match j with
      | 0 => simp at hy; subst hy; exact h1
      | j + 1 => simp at hy
  cases u <;> simp [AV.cellsO] at hc
  case agg => subst hc; obtain ⟨xs, rfl, h1, h2⟩ := h.crel; exact ⟨h1, h2⟩
  all_goals
    subst hc
    have h1 := h.one rfl
    obtain ⟨e1, e2, e3⟩ := single _ _ h h1
    rw [e1]
    exact ⟨e2, e3⟩

theorem foldl_set (off : Nat) : ∀ (l : List Value) (k : Nat) (C : Array Value), off + k + l.length ≤ C.size →
    ((l.zipIdx k).foldl (fun cs (p : Value × Nat) => cs.setIfInBounds (off + p.2) p.1) C).size = C.size ∧
    ∀ i, ((l.zipIdx k).foldl (fun cs (p : Value × Nat) => cs.setIfInBounds (off + p.2) p.1) C)[i]? = if off + k ≤ i ∧ i < off + k + l.length then l[i - (off + k)]? else C[i]? := by
  intro l
  induction l with
  | nil => intro k C h; simp; intro i h1 h2; omega
  | cons x l ih =>
    intro k C h
    simp only [List.length_cons] at h
    obtain ⟨h1, h2⟩ := ih (k + 1) (C.setIfInBounds (off + k) x) (by simp; omega)
    simp only [List.zipIdx_cons, List.foldl_cons]
    refine ⟨by rw [h1]; simp, fun i => ?_⟩
    rw [h2]
    by_cases hi : i = off + k
    · subst hi
      rw [if_neg (by omega), if_pos (by simp)]
      simp only [Nat.sub_self, List.getElem?_cons_zero]
      rw [Array.getElem?_setIfInBounds_self]
      simp; omega
    · by_cases hr : off + (k + 1) ≤ i ∧ i < off + (k + 1) + l.length
      · rw [if_pos hr, if_pos (by simp; omega)]
        obtain ⟨j, hj⟩ : ∃ j, i - (off + k) = j + 1 := ⟨i - (off + k) - 1, by omega⟩
        rw [hj, List.getElem?_cons_succ]
        congr 1
        omega
      · rw [if_neg hr, if_neg (by simp; omega), Array.getElem?_setIfInBounds_ne (by omega)]

theorem fills_ok {E : Env} (ht : TR E a s.t) (pl : Nat → Option (Nat × Nat)) : ∀ (ps : List (Nat × Operand)) (l : List (Nat × Nat × Opd)) (cs cs' : List AV) (C : Array Value), cParts pl ps = some l → fills s cs l = some cs' →
    CRel E cs C → (∀ (j : Nat) (u : Value), C[j]? = some u → u.oneCell' = true) →
    ∃ C', Instr.fill pl C (ps.map fun (i, x) => (i, a.eval x)) = some C' ∧ CRel E cs' C' ∧ (∀ (j : Nat) (u : Value), C'[j]? = some u → u.oneCell' = true) := by
  intro ps
  induction ps with
  | nil => intro l cs cs' C h1 h2 hc h3; simp [cParts] at h1; subst h1; simp [fills] at h2; subst h2; exact ⟨C, rfl, hc, h3⟩
  | cons p ps ih =>
    obtain ⟨i, x⟩ := p
    intro l cs cs' C h1 h2 hc h3
    simp only [cParts] at h1
    cases hp : pl i with
    | none => simp [hp] at h1
    | some q =>
      obtain ⟨o, n⟩ := q
      cases hx : cOpd x with
      | none => simp [hp, hx] at h1
      | some X =>
        cases hl : cParts pl ps with
        | none => simp [hp, hx, hl] at h1
        | some l' =>
          simp [hp, hx, hl] at h1
          subst h1
          simp only [fills] at h2
          cases hv : val s X with
          | none => simp [hv] at h2
          | some u =>
            simp only [hv] at h2
            cases hco : u.cellsO with
            | none => simp [hco] at h2
            | some us =>
              simp only [hco] at h2
              cases hf : fillA cs o n us with
              | none => simp [hf] at h2
              | some cs1 =>
                simp only [hf] at h2
                have hu := cOpd_ok ht hx hv
                obtain ⟨⟨hsz, hrel⟩, hone⟩ := cells_ok hu hco
                unfold fillA at hf
                split at hf
                · rename_i hcond
                  obtain ⟨hn, hle⟩ := hcond
                  simp only [Option.some.injEq] at hf
                  subst hf
                  obtain ⟨f1, f2⟩ := foldl_set o (a.eval x).cells.toList 0 C (by have := hc.1; simp; omega)
                  simp only [List.map_cons, Instr.fill, hp]
                  rw [if_neg (by have := hc.1; simp; omega)]
                  have harr : (a.eval x).cells.zipIdx.foldl (fun cs (p : Value × Nat) => cs.setIfInBounds (o + p.2) p.1) C = ((a.eval x).cells.toList.zipIdx 0).foldl (fun cs (p : Value × Nat) => cs.setIfInBounds (o + p.2) p.1) C := by
                    rw [← Array.foldl_toList, Array.toList_zipIdx]
                  rw [harr]
                  refine ih l' _ cs' _ hl h2 ⟨?_, fun j y z hy hz => ?_⟩ (fun j z hz => ?_)
                  · rw [f1, ← hc.1]; simp; omega
                  · rw [f2] at hz
                    by_cases hin : o + 0 ≤ j ∧ j < o + 0 + (a.eval x).cells.toList.length
                    · rw [if_pos hin] at hz
                      have hj : ¬ j < o := by omega
                      have hlen : (cs.take o).length = o := by simp; omega
                      have hjl : j < o + n := by simp at hin; omega
                      rw [List.append_assoc, List.getElem?_append_right (by omega), hlen, List.getElem?_append_left (by omega)] at hy
                      exact hrel (j - o) y z hy (by simpa using hz)
                    · rw [if_neg hin] at hz
                      have hlen : (cs.take o).length = o := by simp; omega
                      refine hc.2 j y z ?_ hz
                      simp at hin
                      by_cases hj : j < o
                      · rw [List.append_assoc, List.getElem?_append_left (by omega), List.getElem?_take_of_lt hj] at hy; exact hy
                      · have hj' : o + n ≤ j := by have := hin (by omega); omega
                        rw [List.append_assoc, List.getElem?_append_right (by omega), hlen, List.getElem?_append_right (by omega), List.getElem?_drop] at hy
                        rw [← hy]; congr 1; omega
                  · rw [f2] at hz
                    split at hz
                    · exact hone _ z (by simpa using hz)
                    · exact h3 _ z hz
                · cases hf
end
end Go.AM
