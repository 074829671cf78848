/- Arguments that read as data, as the abstract machine's values. -/
import Derived.Test.YtahjgmldkbbpaaaAMRun
import Derived.ChangeArms
import Derived.OpenShut
import Derived.SizedLaws
import Derived.Carry
set_option linter.unusedSimpArgs false
set_option linter.unusedVariables false
namespace Go.AM
open Go Go.RowKit Go.ChangeShapes

def tileP (P : Program) : List (Nat × TypeId) → Nat → Nat → Bool
  | [], off, e => decide (off = e)
  | (o, t) :: r, off, e => decide (o = off) && tileP P r (off + P.cellsOf t) e

def partsF (fs : Array Field) : List (Nat × TypeId) := fs.toList.map fun f => (f.offset, f.type)
def partsA (P : Program) (n : Nat) (e : TypeId) : List (Nat × TypeId) := (List.range n).map fun i => (i * P.cellsOf e, e)

/-- Types whose values are data: bools, whole numbers, texts, slices, structs, arrays. -/
def dataT (P : Program) : Nat → TypeId → Bool
  | 0, _ => false
  | d + 1, t => match P.underlying t with
    | some .bool | some (.int _) | some .string => true
    | some (.slice e) => decide (0 < P.cellsOf e) && dataT P d e
    | some (.struct fs) => ((partsF fs).all fun p => dataT P d p.2) && tileP P (partsF fs) 0 (P.cellsOf t)
    | some (.array n e) => ((partsA P n e).all fun p => dataT P d p.2) && tileP P (partsA P n e) 0 (P.cellsOf t)
    | _ => false

/-- The cells that a value of a type may have. -/
def TypG (P : Program) : Nat → TypeId → List GV → Prop
  | 0, _, _ => False
  | d + 1, t, gs => match P.underlying t with
    | some .bool => ∃ b, gs = [.bool b]
    | some (.int k) => ∃ n, gs = [.int k n] ∧ (Lit.int k n).wf = true
    | some .string => ∃ s, gs = [.str s] ∧ s.length ≤ 9223372036854775807
    | some (.slice e) => gs = [.nsl] ∨ ∃ els : List (List GV), gs = [.sl (P.cellsOf e) els] ∧ els.length ≤ 9223372036854775807 ∧ ∀ el ∈ els, el.length = P.cellsOf e ∧ TypG P d e el
    | some (.struct fs) => gs.length = P.cellsOf t ∧ ∀ p ∈ partsF fs, TypG P d p.2 ((gs.drop p.1).take (P.cellsOf p.2))
    | some (.array n e) => gs.length = P.cellsOf t ∧ ∀ p ∈ partsA P n e, TypG P d p.2 ((gs.drop p.1).take (P.cellsOf p.2))
    | _ => False

/-- Cells and what they hold. -/
def GRs (E : Env) (gs : List GV) (cs : List Value) : Prop := gs.length = cs.length ∧ ∀ (j : Nat) (g : GV) (c : Value), gs[j]? = some g → cs[j]? = some c → GR E g c

theorem GRs.one {E : Env} {g : GV} {c : Value} (h : GR E g c) : GRs E [g] [c] := ⟨rfl, fun j x y hx hy => by
  cases j with
  | zero => simp at hx hy; subst hx hy; exact h
  | succ j => simp at hx⟩

theorem GRs.append {E : Env} {gs gs' : List GV} {cs cs' : List Value} (h : GRs E gs cs) (h' : GRs E gs' cs') : GRs E (gs ++ gs') (cs ++ cs') := by
  refine ⟨by simp [h.1, h'.1], fun j x y hx hy => ?_⟩
  by_cases hl : j < gs.length
  · rw [List.getElem?_append_left hl] at hx
    rw [List.getElem?_append_left (by rw [← h.1]; exact hl)] at hy
    exact h.2 j x y hx hy
  · rw [List.getElem?_append_right (by omega)] at hx
    rw [List.getElem?_append_right (by rw [← h.1]; omega)] at hy
    exact h'.2 _ x y hx (by rw [h.1]; exact hy)

theorem tile_ok {P : Program} {E : Env} {d : Nat} {cs : List Value} : ∀ (ps : List (Nat × TypeId)) (off : Nat), tileP P ps off cs.length = true →
    (∀ p ∈ ps, ∃ gs, TypG P d p.2 gs ∧ GRs E gs ((cs.drop p.1).take (P.cellsOf p.2))) →
    ∃ gs, GRs E gs (cs.drop off) ∧ ∀ p ∈ ps, off ≤ p.1 ∧ TypG P d p.2 ((gs.drop (p.1 - off)).take (P.cellsOf p.2))
  | [], off, ht, _ => by
    simp [tileP] at ht
    subst ht
    exact ⟨[], ⟨by simp, fun j x y hx => by simp at hx⟩, fun p hp => by cases hp⟩
  | (o, t) :: r, off, ht, hh => by
    simp only [tileP, Bool.and_eq_true, decide_eq_true_eq] at ht
    obtain ⟨rfl, ht⟩ := ht
    obtain ⟨gs1, h1, h2⟩ := hh (o, t) (by simp)
    obtain ⟨gs2, h3, h4⟩ := tile_ok r _ ht (fun p hp => hh p (by simp [hp]))
    simp only at h1 h2
    have hle : ∀ (ps : List (Nat × TypeId)) (off e : Nat), tileP P ps off e = true → off ≤ e := by
      intro ps
      induction ps with
      | nil => intro off e h; simp [tileP] at h; omega
      | cons p ps ih =>
        intro off e h
        simp only [tileP, Bool.and_eq_true] at h
        have := ih _ _ h.2
        omega
    have hle := hle r _ _ ht
    have hg1 : gs1.length = P.cellsOf t := by rw [h2.1]; simp; omega
    refine ⟨gs1 ++ gs2, ?_, fun p hp => ?_⟩
    · have e : cs.drop o = (cs.drop o).take (P.cellsOf t) ++ cs.drop (o + P.cellsOf t) := by
        rw [← List.drop_drop, List.take_append_drop]
      rw [e]
      exact h2.append h3
    · rcases List.mem_cons.1 hp with rfl | hp
      · refine ⟨Nat.le_refl _, ?_⟩
        simp only [Nat.sub_self, List.drop_zero]
        rw [List.take_append_of_le_length (by omega), ← hg1, List.take_length]
        exact h1
      · obtain ⟨k1, k2⟩ := h4 p hp
        refine ⟨by omega, ?_⟩
        rw [List.drop_append, List.drop_eq_nil_of_le (by omega), List.nil_append, hg1, show p.1 - o - P.cellsOf t = p.1 - (o + P.cellsOf t) from by omega]
        exact k2


theorem maxLen_eq : maxLen = 9223372036854775807 := by decide

theorem mapM_range_get {w : World} {b : Nat} {a : Addr} {n : Nat} {l : List Value} (h : w.cells? b a n = some l) : l.length = n ∧ ∀ j, j < n → w.cell? (a.add j) = l[j]? := by
  unfold World.cells? at h
  split at h
  · have h1 := mapM_some_length h
    refine ⟨by simpa using h1, fun j hj => ?_⟩
    have := mapM_some_get h j j (by simp [hj])
    exact this
  · cases h

section
variable {H : Type} {enc : TypeId × Value → H} {P : Program} {W : World} {L : Nat → Lc} {spare : Nat → Bool} {held : Bool}

/-- What reads as data is told of by ground values. -/
theorem open_data : ∀ (d : Nat) (t : TypeId) (cs : List Value) (fuel : Nat) (x : DataW H × List MemPlace), dataT P d t = true → DataW.trod enc P W 0 spare held fuel t cs = some x →
    ∃ gs, GRs (envOf W [] L) gs cs ∧ TypG P d t gs
  | 0, _, _, _, _, hd, _ => by cases hd
  | d + 1, t, cs, fuel, x, hd, hx => by
    simp only [dataT] at hd
    split at hd
    · rename_i hu
      obtain ⟨b, rfl, _⟩ := DataW.trod_bool hu hx
      exact ⟨_, .one (.bool b), by simp only [TypG, hu]; exact ⟨b, rfl⟩⟩
    · rename_i k hu
      obtain ⟨n, rfl, _, hw⟩ := DataW.trod_int hu hx
      exact ⟨_, .one (.int k n), by simp only [TypG, hu]; exact ⟨n, rfl, hw⟩⟩
    · rename_i hu
      obtain ⟨s, rfl, _, hs⟩ := DataW.trod_string hu hx
      refine ⟨[.str s.data.toList], .one ?_, by simp only [TypG, hu]; exact ⟨_, rfl, by rw [maxLen_eq] at hs; rw [Array.length_toList]; exact hs⟩⟩
      have := GR.str (E := envOf W [] L) s.data.toList
      simpa using this
    · rename_i e hu
      simp only [Bool.and_eq_true, decide_eq_true_eq] at hd
      obtain ⟨hpos, hd⟩ := hd
      rcases DataW.trod_slice hu hx with ⟨rfl, _⟩ | ⟨a, len, cap, elems, rest, n, rfl, rfl, _, hb, hlc, hcm, hel, hget, hrest⟩
      · exact ⟨_, .one .nsl, by simp only [TypG, hu]; exact .inl trivial⟩
      · -- the elements
        have hE : ∀ i, i < len → ∃ l gs, W.cells? 0 (a.add (i * P.cellsOf e)) (P.cellsOf e) = some l ∧ GRs (envOf W [] L) gs l ∧ TypG P d e gs := by
          intro i hi
          have h1 := hget i hi
          have h2 : i < elems.length := by omega
          rw [List.getElem?_eq_getElem h2] at h1
          cases hq : W.cells? 0 (a.add (i * P.cellsOf e)) (P.cellsOf e) with
          | none => rw [hq] at h1; cases h1
          | some l =>
            rw [hq] at h1
            obtain ⟨gs, k1, k2⟩ := open_data d e l n _ hd h1
            exact ⟨l, gs, rfl, k1, k2⟩
        have hF : ∃ els : List (List GV), els.length = len ∧ ∀ (i : Nat) (el : List GV), els[i]? = some el → ∃ l, W.cells? 0 (a.add (i * P.cellsOf e)) (P.cellsOf e) = some l ∧ GRs (envOf W [] L) el l ∧ TypG P d e el := by
          clear hget hlc hel hx hrest
          induction len with
          | zero => exact ⟨[], rfl, fun i el h => by simp at h⟩
          | succ m ih =>
            obtain ⟨els, k1, k2⟩ := ih (fun i hi => hE i (by omega))
            obtain ⟨l, gs, h1, h2, h3⟩ := hE m (by omega)
            refine ⟨els ++ [gs], by simp [k1], fun i el hi => ?_⟩
            by_cases hlt : i < els.length
            · rw [List.getElem?_append_left hlt] at hi; exact k2 i el hi
            · rw [List.getElem?_append_right (by omega)] at hi
              have : i - els.length = 0 := by
                cases hq : i - els.length with
                | zero => rfl
                | succ n => rw [hq] at hi; simp at hi
              rw [this] at hi
              simp at hi
              subst hi
              have : i = m := by omega
              subst this
              exact ⟨l, h1, h2, h3⟩
        obtain ⟨els, hl, hels⟩ := hF
        have hlenof : ∀ (i : Nat) (el : List GV), els[i]? = some el → el.length = P.cellsOf e := fun i el hi => by
          obtain ⟨l, k1, k2, _⟩ := hels i el hi
          rw [k2.1]; exact (mapM_range_get k1).1
        refine ⟨[.sl (P.cellsOf e) els], .one ?_, ?_⟩
        · by_cases h0 : els = []
          · have : len = 0 := by rw [← hl, h0]; rfl
            subst this
            rw [h0]
            exact .sl0 _ _ _
          · have h1 : 0 < els.length := by cases els <;> simp at h0 ⊢
            have hspot : a.spot = none := by
              obtain ⟨l, k1, k2, _⟩ := hels 0 _ (List.getElem?_eq_getElem h1)
              obtain ⟨j1, j2⟩ := mapM_range_get k1
              have := j2 0 hpos
              rw [List.getElem?_eq_getElem (by omega)] at this
              have h3 := World.cell?_spot this
              obtain ⟨b, o, sp⟩ := a
              cases sp with
              | none => rfl
              | some k => simp [Addr.add] at h3
            obtain ⟨b, o, sp⟩ := a
            simp only at hspot
            subst hspot
            have hcell : ∀ (i : Nat) (el : List GV) (j : Nat) (g : GV), els[i]? = some el → el[j]? = some g →
                ∃ c, W.cell? ⟨b, o + i * P.cellsOf e + j, none⟩ = some c ∧ ((W.cells? 0 ((⟨b, o, none⟩ : Addr).add (i * P.cellsOf e)) (P.cellsOf e)).getD [])[j]? = some c ∧ GR (envOf W [] L) g c := by
              intro i el j g hi hj
              obtain ⟨l, k1, k2, _⟩ := hels i el hi
              obtain ⟨j1, j2⟩ := mapM_range_get k1
              have hjl : j < el.length := (List.getElem?_eq_some_iff.1 hj).1
              have hlj : j < l.length := by rw [← k2.1]; exact hjl
              have h3 := j2 j (by omega)
              rw [add_none, add_none, List.getElem?_eq_getElem hlj] at h3
              exact ⟨l[j], h3, by rw [k1]; simp [hlj], k2.2 j g _ hj (List.getElem?_eq_getElem hlj)⟩
            have hbs : b < W.heap.size := by
              obtain ⟨l, k1, k2, _⟩ := hels 0 _ (List.getElem?_eq_getElem h1)
              have h4 := hlenof 0 _ (List.getElem?_eq_getElem h1)
              obtain ⟨c, h5, _⟩ := hcell 0 _ 0 _ (List.getElem?_eq_getElem h1) (List.getElem?_eq_getElem (by omega))
              unfold World.cell? at h5
              split at h5
              · rename_i hh; exact (Array.getElem?_eq_some_iff.1 hh).1
              · cases h5
            rw [← hl]
            refine .sl (fun i j => (((W.cells? 0 ((⟨b, o, none⟩ : Addr).add (i * P.cellsOf e)) (P.cellsOf e)).getD [])[j]?).getD Go.undef) (by omega) hbs (fun ⟨id, k, hk, _⟩ => by simp at hk) hlenof ?_ ?_
            · intro i el j g hi hj
              obtain ⟨c, k1, k2, _⟩ := hcell i el j g hi hj
              show W.cell? _ = _
              rw [k1, k2]; rfl
            · intro i el j g hi hj
              obtain ⟨c, k1, k2, k3⟩ := hcell i el j g hi hj
              rw [k2]; exact k3
        · simp only [TypG, hu]
          refine .inr ⟨els, rfl, by rw [maxLen_eq] at hcm; omega, fun el hel' => ?_⟩
          obtain ⟨i, hi, hi'⟩ := List.mem_iff_getElem.1 hel'
          have hg : els[i]? = some el := by rw [List.getElem?_eq_getElem hi, hi']
          obtain ⟨l, k1, k2, k3⟩ := hels i el hg
          exact ⟨hlenof i el hg, k3⟩
    · rename_i fs hu
      obtain ⟨xs, n, rfl, _, hl, hxl, hf⟩ := DataW.trod_struct hu hx
      simp only [Bool.and_eq_true, List.all_eq_true] at hd
      obtain ⟨gs, k1, k2⟩ := tile_ok (d := d) (E := envOf W [] L) (cs := cs) (partsF fs) 0 (by rw [hl]; exact hd.2) (fun p hp => by
        simp only [partsF, List.mem_map] at hp
        obtain ⟨f, hfm, rfl⟩ := hp
        obtain ⟨i, hi, hi'⟩ := List.mem_iff_getElem.1 hfm
        have h1 := hf i f (by rw [← Array.getElem?_toList, List.getElem?_eq_getElem hi, hi'])
        have h2 : i < xs.length := by rw [hxl]; simpa using hi
        rw [List.getElem?_eq_getElem h2] at h1
        obtain ⟨gs, k1, k2⟩ := open_data d f.type _ n _ (hd.1 (f.offset, f.type) (by simp only [partsF, List.mem_map]; exact ⟨f, hfm, rfl⟩)) h1
        exact ⟨gs, k2, k1⟩)
      refine ⟨gs, by simpa using k1, ?_⟩
      simp only [TypG, hu]
      exact ⟨by rw [k1.1]; simpa using hl, fun p hp => by simpa using (k2 p hp).2⟩
    · rename_i n e hu
      obtain ⟨xs, m, rfl, _, hl, hxl, hf⟩ := DataW.trod_array hu hx
      simp only [Bool.and_eq_true, List.all_eq_true] at hd
      obtain ⟨gs, k1, k2⟩ := tile_ok (d := d) (E := envOf W [] L) (cs := cs) (partsA P n e) 0 (by rw [hl]; exact hd.2) (fun p hp => by
        have hp' := hp
        simp only [partsA, List.mem_map, List.mem_range] at hp
        obtain ⟨i, hi, rfl⟩ := hp
        have h1 := hf i hi
        rw [List.getElem?_eq_getElem (by omega)] at h1
        obtain ⟨gs, k1, k2⟩ := open_data d e _ m _ (hd.1 _ hp') h1
        exact ⟨gs, k2, k1⟩)
      refine ⟨gs, by simpa using k1, ?_⟩
      simp only [TypG, hu]
      exact ⟨by rw [k1.1]; simpa using hl, fun p hp => by simpa using (k2 p hp).2⟩
    · cases hd
end

end Go.AM
