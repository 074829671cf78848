/- What the evaluator says, the machine does: an operation in its region, a plain region. -/
import Derived.Test.YtahjgmldkbbpaaaAMSnd2
set_option linter.unusedSimpArgs false
set_option linter.unusedVariables false
namespace Go.AM
open Go

section
variable {P : Program} {w0 w w' : World} {L0 L L' : Nat → Lc} {h : List Blk} {nt : Nat} {s s' : St} {a : Act}

theorem cCall_call {P : Program} {drw : Option Nat} {o : Oper} {fo : Opd} {xs : List Opd} (hc : cOp P drw o = some (.call fo xs)) :
    ∃ c x, o.op = .call c ∧ c.callee = .value x ∧ cOpd x = some fo ∧ cOpds c.args.toList = some xs := by
  cases ho : o.op with
  | call c =>
    simp only [cOp, ho, cCall] at hc
    split at hc
    · rename_i f hf
      split at hc
      · rename_i g ys h1 h2
        cases hc
        exact ⟨c, f, rfl, hf, h1, h2⟩
      · cases hc
    · cases hc
    · rename_i b hb
      split at hc
      · rename_i ys hy
        exfalso
        unfold cBuiltin at hc
        repeat' split at hc
        all_goals (first | (cases hc; done) | skip)
      · cases hc
  | assign x => 
    exfalso
    simp only [cOp, ho] at hc
    repeat' split at hc
    all_goals (first | (cases hc; done) | (simp [Option.map_eq_some_iff] at hc; done))
  | binOp op t x y p =>
    exfalso
    simp only [cOp, ho, Option.bind_eq_some_iff, bind] at hc
    obtain ⟨X, _, Y, _, hc⟩ := hc
    repeat' split at hc
    all_goals (first | (cases hc; done) | (simp [Option.map_eq_some_iff] at hc; done) | skip)
  | _ =>
    exfalso
    simp only [cOp, ho] at hc
    repeat' split at hc
    all_goals (first | (cases hc; done) | (simp [Option.map_eq_some_iff, Option.bind_eq_some_iff, bind] at hc; done) | (simp [Option.map_eq_some_iff, Option.bind_eq_some_iff, bind] at hc; repeat' split at hc; all_goals (first | (cases hc; done) | (simp at hc; done))) | contradiction | (simp_all; done))

theorem exOp_other {E : FnS} {nb : Nat} {hd : List Nat} {op : AOp} (hn : ∀ f xs, op ≠ .call f xs) :
    exOp E h nb hd s op = if op.acts = true then evI h nb s op else ob (evP h s op) fun p => some (p.1, s, []) := by
  cases op <;> first | rfl | exact absurd rfl (hn _ _)

/-- An operation: what comes of it. -/
theorem exOp_ok {E : FnS} (hE : FnOk P E) (hs : SR w0 L0 h nt s a w L) {o : Oper} {ao : AOp} {drw : Option Nat} {nb : Nat} {hd : List Nat} {v : AV} {ws : List Nat}
    (hc : cOp P drw o = some ao) (he : exOp E h nb hd s ao = some (v, s', ws)) {K : Act → World → Prop} {Q : Exit → Act → World → Prop}
    (hK : ∀ cv w' L', HR w' (full h s') L' → s'.t = s.t → AR (envOf w' (full h s') L') v cv → Ext (envOf w (full h s) L) (envOf w' (full h s') L') → Same w w' (full h s) L L' ws →
      Kp h s s' ws → K (a.put o.dst cv) w') : o.wp P a w K Q := by
  by_cases hcall : ∃ f xs, ao = .call f xs
  · obtain ⟨f, xs, rfl⟩ := hcall
    obtain ⟨c, x, ho, hx, h1, h2⟩ := cCall_call hc
    simp only [exOp] at he
    split at he
    · rename_i fv vs hf hv
      exact evCall_ok hE hs ho hx h1 h2 hf hv he (fun cv w' L' k1 k2 k3 k4 k5 k6 _ => hK cv w' L' k1 k2 k3 k4 k5 k6)
    · cases he
  · rw [exOp_other (fun f xs e => hcall ⟨f, xs, e⟩)] at he
    split at he
    · obtain ⟨⟨nx, w', L', h1, h2, h3, h4, h5⟩, ht⟩ := evI_ok hs.hr hs.tr hc he
      unfold Oper.wp
      rw [h1]
      rcases h2 with ⟨cv, rfl, hv⟩ | ⟨rfl, rfl⟩
      · rw [Oper.upon_value]
        exact hK cv w' L' h3 ht hv h4 h5 (evI_keys he)
      · rw [Oper.upon_skip]
        exact hK _ w' L' h3 ht .undef h4 h5 (evI_keys he)
    · obtain ⟨⟨v', rs⟩, hv, he⟩ := ob_some he
      cases he
      obtain ⟨cv, h1, h2⟩ := evP_ok hs.hr hs.tr hc hv
      unfold Oper.wp
      rw [h2 w (fun _ => .self _ _), Oper.upon_value]
      exact hK cv w L hs.hr rfl h1 (.refl _) (fun _ _ _ => ⟨rfl, fun _ _ _ => rfl⟩) (.refl _ _)

/-- What a step leaves as it is. -/
def Kept (w w' : World) (h : List Blk) (s : St) (L L' : Nat → Lc) (ws : List Nat) : Prop :=
  Same w w' (full h s) L L' ws

theorem evOne_ok {E : FnS} (hE : FnOk P E) (hs : SR w0 L0 h nt s a w L) {ops : Array Oper} {o : Oper} {i : Nat} (hi : ops[i]? = some o) {ao : AOper} {drw : Option Nat} {nb : Nat} {hd : List Nat}
    {ws : List Nat} (hc : cOper P nt ops drw o = some ao) (he : evOne E h nb hd s ao = some (s', ws)) {K : Act → World → Prop} {Q : Exit → Act → World → Prop}
    (hK : ∀ a' w' L', SR w0 L0 h nt s' a' w' L' → Same w w' (full h s) L L' ws → Ext (envOf w (full h s) L) (envOf w' (full h s') L') → (∀ i, i ∉ ws → i < (full h s).length → (full h s')[i]? = (full h s)[i]?) → K a' w') : wpOp P ops Q i K a w := by
  unfold cOper at hc
  split at hc
  case h_2 => cases hc
  rename_i g hg
  split at hc
  case isFalse => cases hc
  rename_i hd'
  cases hc
  unfold evOne at he
  simp only at he
  obtain ⟨s1, c, hs1, hm1, ho1, hw, hcase⟩ := gdo_ok hs hg he
  have hf1 : full h s1 = full h s := by unfold full; rw [hm1, ho1]
  rw [← hf1] at hK
  unfold wpOp
  simp only [hi, hw]
  rcases hcase with ⟨rfl, he⟩ | ⟨rfl, he⟩
  · rw [if_pos rfl]
    obtain ⟨⟨v, s2, ws2⟩, hx, he⟩ := ob_some he
    cases he
    obtain ⟨op, hop, hgd'⟩ : ∃ op, cOp P drw o = some op ∧ (cOp P drw o).getD (.row 0 []) = op := by
      cases hq : cOp P drw o with
      | none => rw [hq] at hx; cases hx
      | some op => exact ⟨op, rfl, rfl⟩
    rw [hgd'] at hx
    refine .inl (exOp_ok hE hs1 hop hx fun cv w' L' k1 k2 k3 k4 k5 k6 => hK _ _ L' (hs1.go hd' k1 k2 k3 k4 k5 k6 (hlive_all h s1)) k5 ?_ ?_)
    · cases hdst : o.dst <;> exact k4
    · cases hdst : o.dst <;> exact k6.stay
  · cases he
    rw [if_neg (by simp)]
    refine hK _ _ L ?_ (fun _ _ _ => ⟨rfl, fun _ _ _ => rfl⟩) ?_ ?_
    · exact hs1.go hd' hs1.hr rfl .undef (.refl _) (ws := []) (fun _ _ _ => ⟨rfl, fun _ _ _ => rfl⟩) (.refl _ _) (hlive_all h s1)
    · cases hdst : o.dst <;> exact .refl _
    · cases hdst : o.dst <;> exact fun _ _ _ => rfl

/-- A region's operations, as they stand. -/
def cOps (P : Program) (nt : Nat) (ops : Array Oper) : List Oper → Option (List AOper)
  | [] => some []
  | o :: r => match cOper P nt ops none o, cOps P nt ops r with
    | some x, some y => some (x :: y)
    | _, _ => none

theorem evOps_ok {E : FnS} (hE : FnOk P E) {ops : Array Oper} {Q : Exit → Act → World → Prop} : ∀ (l : List Oper) (k : Nat) (al : List AOper) (s : St) (a : Act) (w : World) (L : Nat → Lc), (∀ (j : Nat), l[j]? = ops[k + j]?) →
    cOps P nt ops l = some al → SR w0 L0 h nt s a w L → evOps E h al s = some s' → (∀ a' w' L', SR w0 L0 h nt s' a' w' L' → Q .normal a' w') → wpOps P ops Q (List.range' k l.length) a w
  | [], k, al, s, a, w, L, hl, hc, hs, he, hQ => by
    cases hc
    simp only [evOps] at he
    cases he
    exact hQ a w L hs
  | o :: r, k, al, s, a, w, L, hl, hc, hs, he, hQ => by
    simp only [cOps] at hc
    split at hc
    case h_2 => cases hc
    rename_i x y hx hy
    cases hc
    simp only [evOps] at he
    obtain ⟨⟨s1, ws⟩, h1, he⟩ := ob_some he
    simp only [List.length_cons, List.range'_succ]
    rw [wpOps_cons]
    refine evOne_ok hE hs (by have := hl 0; simpa using this.symm) hx h1 fun a' w' L' k1 _ _ _ => ?_
    exact evOps_ok hE r (k + 1) y s1 a' w' L' (fun j => by have := hl (j + 1); simp at this; rw [this]; congr 1; omega) hy k1 he hQ

theorem evReg_ok {E : FnS} (hE : FnOk P E) {ops : Array Oper} {id : Nat} {Q : Exit → Act → World → Prop} {al : List AOper} (hc : cOps P nt ops ops.toList = some al) (hs : SR w0 L0 h nt s a w L)
    (he : evOps E h al s = some s') (hQ : ∀ a' w' L', SR w0 L0 h nt s' a' w' L' → Q .normal a' w') : (Code.region id ops false).wp P Q a w := by
  refine wp_region ?_
  have := evOps_ok hE (Q := Q) ops.toList 0 al s a w L (fun j => by simp) hc hs he hQ
  simpa [List.range_eq_range'] using this

end
end Go.AM
