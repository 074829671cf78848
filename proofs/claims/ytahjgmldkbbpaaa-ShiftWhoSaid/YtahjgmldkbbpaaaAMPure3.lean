/- The operations that leave memory as it is, all of them. -/
import Derived.Test.YtahjgmldkbbpaaaAMPure2
set_option linter.unusedSimpArgs false
set_option linter.unusedVariables false
namespace Go.AM
open Go

theorem map_some_inv {α β : Type} {f : α → β} {x : Option α} {y : β} (h : x.map f = some y) : ∃ z, x = some z ∧ f z = y := by
  cases x with
  | none => simp at h
  | some z => exact ⟨z, rfl, by simpa using h⟩

theorem bind_some_inv {α β : Type} {f : α → Option β} {x : Option α} {y : β} (h : (x >>= f) = some y) : ∃ z, x = some z ∧ f z = some y := by
  cases x with
  | none => simp at h
  | some z => exact ⟨z, rfl, by simpa using h⟩

theorem bnd_ok {s : St} {d : Nat} {x : Option Opd} {i : Int} (h : bnd s d x = some i) : (x = none ∧ i = d) ∨ ∃ y k, x = some y ∧ val s y = some (.g (.int k i)) := by
  cases x with
  | none => simp [bnd] at h; exact .inl ⟨rfl, h.symm⟩
  | some y =>
    simp only [bnd] at h
    cases hv : val s y with
    | none => simp [hv] at h
    | some v =>
      simp only [hv] at h
      unfold intOfA at h
      split at h
      · cases h; exact .inr ⟨y, _, rfl, hv⟩
      · cases h

theorem cutB_ok {s : St} {n l u : Nat} {lo hi : Option Opd} (h : cutB s n lo hi = some (l, u)) : l ≤ u ∧ u ≤ n ∧
    ((lo = none ∧ l = 0) ∨ ∃ x k, lo = some x ∧ val s x = some (.g (.int k l))) ∧ ((hi = none ∧ u = n) ∨ ∃ x k, hi = some x ∧ val s x = some (.g (.int k u))) := by
  unfold cutB at h
  split at h
  · rename_i L U hL hU
    split at h
    · rename_i hc
      obtain ⟨h1, h2, h3⟩ := hc
      simp at h
      obtain ⟨rfl, rfl⟩ := h
      refine ⟨by omega, by omega, ?_, ?_⟩
      · rcases bnd_ok hL with ⟨e, rfl⟩ | ⟨y, k, e, hk⟩
        · exact .inl ⟨e, by simp⟩
        · exact .inr ⟨y, k, e, by rw [hk, Int.toNat_of_nonneg h1]⟩
      · rcases bnd_ok hU with ⟨e, rfl⟩ | ⟨y, k, e, hk⟩
        · exact .inl ⟨e, by simp⟩
        · exact .inr ⟨y, k, e, by rw [hk, Int.toNat_of_nonneg (by omega)]⟩
    · cases h
  · cases h

theorem cOpt_val {E : Env} {a : Act} {s : St} (ht : TR E a s.t) {x : Option Operand} {X : Option Opd} (h : cOpt x = some X) :
    (x = none ∧ X = none) ∨ ∃ y Y, x = some y ∧ X = some Y ∧ ∀ v, val s Y = some v → AR E v (a.eval y) := by
  cases x with
  | none => simp [cOpt] at h; exact .inl ⟨rfl, h.symm⟩
  | some y =>
    simp [cOpt] at h
    obtain ⟨Y, h1, h2⟩ := h
    exact .inr ⟨y, Y, rfl, h2.symm, fun v hv => cOpd_ok ht h1 hv⟩

theorem run_sliceBounds {P : Program} {E : Env} {a : Act} {s : St} (ht : TR E a s.t) {isS : Bool} {n cap l u : Nat} {lo hi : Option Operand} {Lo Hi : Option Opd} (hlo : cOpt lo = some Lo) (hhi : cOpt hi = some Hi)
    (hcap : n ≤ cap) (h : cutB s n Lo Hi = some (l, u)) (w : World) : (Instr.sliceBounds isS n cap (lo.map a.eval) (hi.map a.eval) none).run P w = .ok (l, u, cap) w := by
  obtain ⟨h1, h2, h3, h4⟩ := cutB_ok h
  have hb : ∀ (v : Value) (k : IntKind) (i y : Nat) (c : BoundsCode), v = .int k i → i ≤ y → (Instr.sliceBound v y c).run P w = .ok i w := by
    intro v k i y c e hi
    subst e
    unfold Instr.sliceBound
    simp only [asIntOf, pure_bind]
    rw [if_pos ⟨by omega, by omega⟩]
    simp
  unfold Instr.sliceBounds
  rcases cOpt_val ht hlo with ⟨rfl, rfl⟩ | ⟨y, Y, rfl, rfl, hY⟩ <;> rcases cOpt_val ht hhi with ⟨rfl, rfl⟩ | ⟨z, Z, rfl, rfl, hZ⟩
  · simp at h3 h4; subst h3 h4; simp
  · simp at h3 h4; subst h3; obtain ⟨k, hk⟩ := h4
    simp [hb _ k u cap _ ((hZ _ hk).inv_g.inv_int) (by omega)]
  · simp at h3 h4; subst h4; obtain ⟨k, hk⟩ := h3
    simp [hb _ k l u _ ((hY _ hk).inv_g.inv_int) (by omega)]
  · simp at h3 h4; obtain ⟨k, hk⟩ := h3; obtain ⟨k', hk'⟩ := h4
    simp [hb _ k l u _ ((hY _ hk).inv_g.inv_int) (by omega), hb _ k' u cap _ ((hZ _ hk').inv_g.inv_int) (by omega)]

theorem toList_take_drop (b : List UInt8) (l u : Nat) : (ByteArray.mk b.toArray).extract l u = ByteArray.mk ((b.take u).drop l).toArray := by
  rw [ByteArray.extract_mk, List.drop_take]

/-- A cut of a slice that is only read. -/
theorem GR.cut {E : Env} {sz : Nat} {els : List (List GV)} {v : Value} (h : GR E (.sl sz els) v) (l u : Nat) (hl : l ≤ u) (hu : u ≤ els.length) :
    ∃ A n cap, v = .slice A n cap ∧ n = els.length ∧ n ≤ cap ∧ GR E (.sl sz ((els.take u).drop l)) (.slice (if cap = l then A else A.map (·.add (l * sz))) (u - l) (cap - l)) := by
  cases h with
  | @sl _ b o cap _ c hcap hb hO hsz hc hg =>
    refine ⟨_, _, _, rfl, rfl, hcap, ?_⟩
    have hlen : ((els.take u).drop l).length = u - l := by simp; omega
    by_cases hz : u - l = 0
    · have : (els.take u).drop l = [] := List.eq_nil_of_length_eq_zero (by omega)
      rw [this, hz]
      exact .sl0 _ _ _
    · have hne : cap ≠ l := by omega
      rw [if_neg hne]
      have hadd : (⟨b, o, none⟩ : Addr).add (l * sz) = ⟨b, o + l * sz, none⟩ := by unfold Addr.add; split <;> simp_all
      simp only [Option.map_some, hadd]
      have hget : ∀ i el, ((els.take u).drop l)[i]? = some el → els[l + i]? = some el := by
        intro i el hi
        rw [List.getElem?_drop, List.getElem?_take] at hi
        split at hi
        · exact hi
        · cases hi
      rw [← hlen]
      refine .sl (fun i j => c (l + i) j) (by omega) hb hO (fun i el hi => hsz _ el (hget i el hi)) (fun i el j x hi hj => ?_) (fun i el j x hi hj => hg _ el j x (hget i el hi) hj)
      have := hc _ el j x (hget i el hi) hj
      rw [← this]; congr 2
      rw [Nat.add_mul]; omega
  | sl0 _ A cap =>
    refine ⟨_, _, _, rfl, rfl, by simp, ?_⟩
    simp at hu
    subst hu
    have : l = 0 := by omega
    subst this
    exact .sl0 _ _ _

theorem MsOk.cut {lc : Lc} {sz off len : Nat} {v : Value} (h : MsOk lc sz off len v) (l u : Nat) (hl : l ≤ u) (hu : u ≤ len) :
    ∃ A cap, v = .slice A len cap ∧ len ≤ cap ∧ MsOk lc sz (off + l) (u - l) (.slice (if cap = l then A else A.map (·.add (l * sz))) (u - l) (cap - l)) := by
  unfold MsOk at h
  cases hb : lc.blk with
  | none =>
    rw [hb] at h
    obtain ⟨rfl, rfl, rfl⟩ := h
    have : u = 0 := by omega
    subst this
    have : l = 0 := by omega
    subst this
    exact ⟨_, _, rfl, by simp, by simp [MsOk, hb]⟩
  | some b =>
    rw [hb] at h
    obtain ⟨a, c, rfl, h1, h2, h3⟩ := h
    refine ⟨_, _, rfl, h2, ?_⟩
    simp only [MsOk, hb]
    by_cases hc : c = l
    · subst hc
      refine ⟨a, 0, by simp, by omega, by omega, .inr rfl⟩
    · rw [if_neg hc]
      refine ⟨a.add (l * sz), c - l, by simp, by omega, by omega, ?_⟩
      rcases h3 with rfl | h3
      · left
        have hadd : (⟨b, off * sz, none⟩ : Addr).add (l * sz) = ⟨b, off * sz + l * sz, none⟩ := by unfold Addr.add; split <;> simp_all
        rw [hadd, ← Nat.add_mul]
      · omega

end Go.AM
