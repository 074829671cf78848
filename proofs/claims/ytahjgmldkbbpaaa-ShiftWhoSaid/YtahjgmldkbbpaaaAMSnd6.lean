/- What the evaluator says, the machine does: what a function leaves behind. -/
import Derived.Test.YtahjgmldkbbpaaaAMSnd5
set_option linter.unusedSimpArgs false
set_option linter.unusedVariables false
namespace Go.AM
open Go

theorem GR.shrink {E E' : Env} (hw : E'.w = E.w) (hO : ∀ b, E'.O b → E.O b) {v : GV} {cv : Value} (hv : GR E v cv) : GR E' v cv := by
  induction hv with
  | bool b => exact .bool b
  | int k n => exact .int k n
  | str s => exact .str s
  | sl c hcap hb hO' hsz hc hg ih =>
    refine .sl c hcap (by rw [hw]; exact hb) (fun h => hO' (hO _ h)) hsz (fun i el j a h1 h2 => ?_) ih
    rw [hw]; exact hc i el j a h1 h2
  | sl0 sz a cap => exact .sl0 sz a cap
  | nsl => exact .nsl
  | nptr => exact .nptr
  | nmap => exact .nmap
  | nfn => exact .nfn
  | nif => exact .nif
  | fn f => exact .fn f
  | ifc t _ ih => exact .ifc t ih

theorem AR.shrink0 {E E' : Env} (hw : E'.w = E.w) (hO : ∀ b, E'.O b → E.O b) (hL : E'.L = E.L) {v : AV} {cv : Value} (hv : AR E v cv) (hl : v.lt0 E'.n = true) : AR E' v cv := by
  cases hv with
  | g h => exact .g (h.shrink hw hO)
  | cp c hb hO' hc hg => exact .cp c (by rw [hw]; exact hb) (fun h => hO' (hO _ h)) (fun j a h => by rw [hw]; exact hc j a h) fun j a h => (hg j a h).shrink hw hO
  | ptr hid hgen hb => exact .ptr (by simpa [AV.lt0] using hl) (by rw [hL]; exact hgen) (by rw [hL]; exact hb)
  | ms hid h0 hle h1 hm => exact .ms (by simpa [AV.lt0] using hl) (by rw [hL]; exact h0) (by rw [hL]; exact hle) h1 (by rw [hL]; exact hm)
  | rp hid h0 hle h1 hm => exact .rp (by simpa [AV.lt0] using hl) (by rw [hL]; exact h0) (by rw [hL]; exact hle) h1 (by rw [hL]; exact hm)
  | via t p f q => exact .via t p f q
  | mp hid hgen hb => exact .mp (by simpa [AV.lt0] using hl) (by rw [hL]; exact hgen) (by rw [hL]; exact hb)
  | undef => exact .undef
  | agg _ _ _ => simp [AV.lt0] at hl
  | tup _ _ => simp [AV.lt0] at hl
  | fv _ _ => simp [AV.lt0] at hl
  | ifa _ _ => simp [AV.lt0] at hl

theorem AR.shrink1 {E E' : Env} (hw : E'.w = E.w) (hO : ∀ b, E'.O b → E.O b) (hL : E'.L = E.L) {v : AV} {cv : Value} (hv : AR E v cv) (hl : v.lt1 E'.n = true) : AR E' v cv := by
  cases v with
  | fv f caps =>
    cases hv with
    | fv hn hc =>
      refine .fv hn fun j a u ha hu => (hc j a u ha hu).shrink0 hw hO hL ?_
      exact List.all_eq_true.1 hl a (List.mem_of_getElem? ha)
  | ifa t v =>
    cases hv with
    | ifa _ h => exact .ifa t (h.shrink0 hw hO hL hl)
  | _ => exact hv.shrink0 hw hO hL hl

theorem HB.shrink {E E' : Env} (hw : E'.w = E.w) (hO : ∀ b, E'.O b → E.O b) (hL : E'.L = E.L) {id : Nat} {k : Blk} (hk : HB E id k) (hl : k.lt1 E'.n = true) : HB E' id k := by
  have rows : ∀ {C : Array Value} {sz cap : Nat} {els : List (List GV)}, RowsIn E C sz cap els → RowsIn E' C sz cap els := fun k =>
    ⟨k.1, k.2.1, fun i el hi => ⟨(k.2.2 i el hi).1, fun j a hj => let ⟨v, h1, h2⟩ := (k.2.2 i el hi).2 j a hj; ⟨v, h1, h2.shrink hw hO⟩⟩⟩
  cases k with
  | cells cs =>
    obtain ⟨h0, b, T, C, h1, h2, h3⟩ := hk
    refine ⟨by rw [hL]; exact h0, b, T, C, by rw [hL]; exact h1, by rw [hw]; exact h2, h3.1, fun j a hj => ?_⟩
    obtain ⟨v, k1, k2, k3⟩ := h3.2 j a hj
    exact ⟨v, k1, k2.shrink1 hw hO hL (List.all_eq_true.1 hl a (List.mem_of_getElem? hj)), k3⟩
  | rows sz g els =>
    obtain ⟨h0, h1, h2⟩ := hk
    refine ⟨by rw [hL]; exact h0, ⟨by rw [hL]; exact h1.1, h1.2⟩, ?_⟩
    rw [hL, hw]
    cases hq : (E.L id).blk with
    | none => rw [hq] at h2; exact h2
    | some b => rw [hq] at h2; obtain ⟨T, C, h3, h4⟩ := h2; exact ⟨T, C, h3, rows h4⟩
  | fro sz g els =>
    obtain ⟨h0, h1, h2⟩ := hk
    refine ⟨by rw [hL]; exact h0, h1, ?_⟩
    rw [hL, hw]
    cases hq : (E.L id).blk with
    | none => rw [hq] at h2; exact h2
    | some b => rw [hq] at h2; obtain ⟨h3, h4, T, C, fr, h5, h6⟩ := h2; exact ⟨h3, fun h => h4 (hO _ h), T, C, fr, h5, rows h6⟩
  | map es =>
    obtain ⟨h0, b, en, ck, h1, h2, h3⟩ := hk
    exact ⟨by rw [hL]; exact h0, b, en, ck, by rw [hL]; exact h1, by rw [hw]; exact h2, h3.1, fun j p e k1 k2 => ⟨(h3.2 j p e k1 k2).1.shrink hw hO, (h3.2 j p e k1 k2).2.shrink hw hO⟩⟩
  | pend => rw [HB, hL]; exact hk
  | hid => intro b hb; rw [hL] at hb; rw [hw]; exact hk b hb

section
variable {w : World} {A o : List Blk} {L : Nat → Lc}

theorem own_left {b : Nat} (hb : Own A L b) : Own (A ++ o) L b := by
  obtain ⟨id, k, h1, h2, h3⟩ := hb
  exact ⟨id, k, by rw [List.getElem?_append_left (List.getElem?_eq_some_iff.1 h1).1]; exact h1, h2, h3⟩

theorem live_left {i : Nat} (hi : Live A i) : Live (A ++ o) i := by
  obtain ⟨k, h1, h2⟩ := hi
  exact ⟨k, by rw [List.getElem?_append_left (List.getElem?_eq_some_iff.1 h1).1]; exact h1, h2⟩

/-- The last blocks are let go. -/
theorem HR.drop (hr : HR w (A ++ o) L) (hl : ∀ (i : Nat) (k : Blk), A[i]? = some k → k.lt1 A.length = true ∨ HB (envOf w A L) i k) : HR w A L := by
  have hget : ∀ (i : Nat) (k : Blk), A[i]? = some k → (A ++ o)[i]? = some k := fun i k hk => by
    rw [List.getElem?_append_left (List.getElem?_eq_some_iff.1 hk).1]; exact hk
  refine ⟨fun id k hk => ?_, fun i j b x y hx hy lx ly hi hj => hr.inj i j b x y (hget i x hx) (hget j y hy) lx ly hi hj⟩
  rcases hl id k hk with hl | hl
  · exact HB.shrink (E := envOf w (A ++ o) L) (E' := envOf w A L) rfl (fun b => own_left) rfl (hr.blk id k (hget id k hk)) hl
  · exact hl

theorem ext_drop {E0 : Env} (he : Ext E0 (envOf w (A ++ o) L)) (hn : E0.n ≤ A.length) : Ext E0 (envOf w A L) where
  os := he.os
  tape := he.tape
  output := he.output
  size := he.size
  keep b hb hO := ⟨(he.keep b hb hO).1, fun h => (he.keep b hb hO).2 (own_left h)⟩
  le := hn
  loc := he.loc
  lv id hid hv := he.lv id hid (live_left hv)
end

section
variable {w w0 : World} {L L0 : Nat → Lc} {h : List Blk} {nt : Nat} {s : St} {a : Act}

theorem frz0_ok (hr : HR w (full h s) L) {v v' : AV} {cv : Value} (he : frz0 h s v = some v') (hv : AR (envOf w (full h s) L) v cv) : AR (envOf w (applyM h s.m) L) v' cv := by
  have hO : ∀ b, (envOf w (applyM h s.m) L).O b → (envOf w (full h s) L).O b := fun b => own_left
  have hn : (envOf w (applyM h s.m) L).n = h.length := applyM_length ..
  have plain : ∀ v : AV, AR (envOf w (full h s) L) v cv → v.lt1 h.length = true → AR (envOf w (applyM h s.m) L) v cv := fun v hv hl =>
    AR.shrink1 (E := envOf w (full h s) L) (E' := envOf w (applyM h s.m) L) rfl hO rfl hv (by rw [hn]; exact hl)
  unfold frz0 at he
  split at he
  · rename_i id g sz off len
    split at he
    · rename_i hid
      cases he
      exact plain _ hv (by simpa [AV.lt1, AV.lt0] using hid)
    · rename_i hid
      split at he
      case h_2 => cases he
      rename_i els hview
      cases he
      simp only [viewN, if_true] at hview
      cases hv with
      | ms hid' hg0 hle h1 hm =>
      have main : ∀ (els0 : List (List GV)), g = ((envOf w (full h s) L).L id).gen → off + len ≤ els0.length → els = (els0.drop off).take len →
          (match (L id).blk with
            | none => els0 = [] ∧ (L id).cap = 0
            | some b => b < w.heap.size ∧ ¬ (envOf w (applyM h s.m) L).O b ∧ ∃ T C fr, w.heap[b]? = some (.cells C T fr) ∧ RowsIn (envOf w (full h s) L) C sz (L id).cap els0) → AR (envOf w (applyM h s.m) L) (.g (.sl sz els)) cv := by
        intro els0 hg hlen hels hb
        have hm := hm hg
        unfold MsOk at hm
        have hL : (envOf w (full h s) L).L id = L id := rfl
        rw [hL] at hm
        cases hq : (L id).blk with
        | none =>
          rw [hq] at hm hb
          obtain ⟨rfl, rfl, rfl⟩ := hm
          obtain ⟨rfl, _⟩ := hb
          subst hels
          exact .g (.sl0 sz none 0)
        | some b =>
          rw [hq] at hm hb
          obtain ⟨A, c, rfl, hc, hlc, hA⟩ := hm
          obtain ⟨hbs, hbO, T, C, fr, hheap, hrow⟩ := hb
          have hl : els.length = len := by subst hels; simp; omega
          by_cases hc0 : len = 0
          · subst hc0
            have : els = [] := List.eq_nil_of_length_eq_zero hl
            rw [this]
            exact .g (.sl0 sz _ _)
          · have hA' : A = ⟨b, off * sz, none⟩ := by
              rcases hA with h | h
              · exact h
              · omega
            subst hA'
            rw [← hl]
            have hget : ∀ (i : Nat) (el : List GV), els[i]? = some el → els0[off + i]? = some el := by
              intro i el hi
              subst hels
              rw [List.getElem?_take] at hi
              split at hi
              · rw [List.getElem?_drop] at hi; exact hi
              · cases hi
            refine .g (.sl (fun i j => (C[(off + i) * sz + j]?).getD Go.undef) (by omega) hbs hbO (fun i el hi => (hrow.2.2 _ el (hget i el hi)).1) (fun i el j x hi hj => ?_) (fun i el j x hi hj => ?_))
            · obtain ⟨v, k1, k2⟩ := (hrow.2.2 _ el (hget i el hi)).2 j x hj
              rw [show off * sz + i * sz + j = (off + i) * sz + j from by rw [Nat.add_mul]]
              show w.cell? _ = _
              simp [World.cell?, hheap, k1]
            · obtain ⟨v, k1, k2⟩ := (hrow.2.2 _ el (hget i el hi)).2 j x hj
              rw [k1]
              exact GR.shrink (E := envOf w (full h s) L) (E' := envOf w (applyM h s.m) L) rfl hO k2
      split at hview
      · rename_i sz2 g' els0 hB
        split at hview
        case isFalse => cases hview
        rename_i hcond
        cases hview
        obtain ⟨rfl, rfl, hlen⟩ := hcond
        have hfull : (full h s)[id]? = some (.rows sz2 g els0) := by rw [getB_full]; exact hB
        obtain ⟨k0, k1, k2⟩ := hr.blk id _ hfull
        refine main els0 k0.symm hlen rfl ?_
        change (match (L id).blk with | none => _ | some b => _) at k2
        cases hq : (L id).blk with
        | none => rw [hq] at k2; exact k2
        | some b =>
          rw [hq] at k2
          obtain ⟨T, C, k3, k4⟩ := k2
          refine ⟨(Array.getElem?_eq_some_iff.1 k3).1, ?_, T, C, (0, 0), k3, k4⟩
          rintro ⟨id', k, j1, j2, j3⟩
          have j1' : (full h s)[id']? = some k := by
            unfold full
            rw [List.getElem?_append_left (List.getElem?_eq_some_iff.1 j1).1]; exact j1
          have := hr.inj id' id b k _ j1' hfull j2 rfl j3 hq
          subst this
          have := (List.getElem?_eq_some_iff.1 j1).1
          rw [applyM_length] at this
          exact hid this
      · rename_i sz2 g' els0 hB
        split at hview
        case isFalse => cases hview
        rename_i hcond
        cases hview
        obtain ⟨rfl, rfl, hlen⟩ := hcond
        have hfull : (full h s)[id]? = some (.fro sz2 g els0) := by rw [getB_full]; exact hB
        obtain ⟨k0, k1, k2⟩ := hr.blk id _ hfull
        refine main els0 k0.symm hlen rfl ?_
        change (match (L id).blk with | none => _ | some b => _) at k2
        cases hq : (L id).blk with
        | none => rw [hq] at k2; exact k2
        | some b =>
          rw [hq] at k2
          obtain ⟨k3, k4, T, C, fr, k5, k6⟩ := k2
          exact ⟨k3, fun hh => k4 (hO _ hh), T, C, fr, k5, k6⟩
      · cases hview
  · split at he
    · rename_i hl
      cases he
      exact plain _ hv hl
    · cases he

theorem frz1_ok : ∀ (vs vs' : List AV), frz1 h s vs = some vs' → vs'.length = vs.length ∧ ∀ (j : Nat) (x : AV), vs'[j]? = some x → ∃ y, vs[j]? = some y ∧ frz0 h s y = some x
  | [], vs', he => by cases he; exact ⟨rfl, fun j x hx => by simp at hx⟩
  | v :: r, vs', he => by
    simp only [frz1] at he
    split at he
    case h_2 => cases he
    rename_i v1 r1 h1 h2
    cases he
    obtain ⟨k1, k2⟩ := frz1_ok r r1 h2
    refine ⟨by simp [k1], fun j x hx => ?_⟩
    cases j with
    | zero => simp at hx; subst hx; exact ⟨v, rfl, h1⟩
    | succ j => simp at hx; obtain ⟨y, hy, hz⟩ := k2 j x hx; exact ⟨y, by simpa using hy, hz⟩

theorem frz2_ok (hr : HR w (full h s) L) {v v' : AV} {cv : Value} (he : frz2 h s v = some v') (hv : AR (envOf w (full h s) L) v cv) : AR (envOf w (applyM h s.m) L) v' cv := by
  unfold frz2 at he
  split at he
  · rename_i cs
    split at he
    case h_2 => cases he
    rename_i cs' hc
    cases he
    obtain ⟨k1, k2⟩ := frz1_ok cs cs' hc
    cases hv with
    | agg hn hx h1 =>
      refine .agg (by omega) (fun j x v hj hv' => ?_) h1
      obtain ⟨y, hy, hz⟩ := k2 j x hj
      exact frz0_ok hr hz (hx j y v hy hv')
  · exact frz0_ok hr he hv

theorem frz3_ok : ∀ (vs vs' : List AV), frz3 h s vs = some vs' → vs'.length = vs.length ∧ ∀ (j : Nat) (x : AV), vs'[j]? = some x → ∃ y, vs[j]? = some y ∧ frz2 h s y = some x
  | [], vs', he => by cases he; exact ⟨rfl, fun j x hx => by simp at hx⟩
  | v :: r, vs', he => by
    simp only [frz3] at he
    split at he
    case h_2 => cases he
    rename_i v1 r1 h1 h2
    cases he
    obtain ⟨k1, k2⟩ := frz3_ok r r1 h2
    refine ⟨by simp [k1], fun j x hx => ?_⟩
    cases j with
    | zero => simp at hx; subst hx; exact ⟨v, rfl, h1⟩
    | succ j => simp at hx; obtain ⟨y, hy, hz⟩ := k2 j x hx; exact ⟨y, by simpa using hy, hz⟩
end
end Go.AM
