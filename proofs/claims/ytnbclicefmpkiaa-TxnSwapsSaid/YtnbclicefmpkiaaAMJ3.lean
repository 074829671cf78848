/- Part of the proof: the abstract machine, part 3 (AMSnd4, AMSnd5, AMSnd6, AMSnd7, AMSnd8, AMRun, AMData, AMLaw, AMTab, AMArms, AMWalk, AMWrap, AMTy, AMApi, AMLoop). No conditions. -/
import Derived.Test.YtnbclicefmpkiaaAMJ2
import Derived.Scope
import Derived.ChangeArms
import Derived.OpenShut
import Derived.SizedLaws
import Derived.Carry
import Derived.Laws.Externs
section
set_option linter.unusedSimpArgs false
set_option linter.unusedVariables false
namespace Go.AM
open Go

/-- The number of allocs ahead of an operation of a region. -/
def allocNo (ops : Array Oper) (i : Nat) : Nat :=
  ((ops.toList.take i).filter fun o => match o.op with | .alloc _ => true | _ => false).length

def cDrw (P : Program) (nt : Nat) (ops : Array Oper) (i : Nat) : Option AOper :=
  match ops[i]? with
  | some o => cOper P nt ops (some (allocNo ops i)) o
  | none => none

def takeable (ld : Bool) (o : AOper) : Bool :=
  !o.op.acts && (match o.op with
    | .call .. | .row .. => false
    | .load .. => ld
    | _ => true)

def takeB (P : Program) (nt : Nat) (ops : Array Oper) (ld : Bool) (listed : Array Bool) (i : Nat) : Bool :=
  match cDrw P nt ops i with
  | some o => takeable ld o && Region.free .any ops listed i
  | none => false

def cAll (f : Nat → Option Tree) (c : Nat → Option AOper) : List Nat → Option Tree
  | [] => none
  | i :: [] => match c i, f i with
    | some o, some t => some (.one o t)
    | _, _ => none
  | i :: r => match c i, f i, cAll f c r with
    | some o, some t, some r => some (.alt o t r)
    | _, _, _ => none

/-- Does an operation wait, by an edge, for another? -/
def waitsOn (ops : Array Oper) (j i : Nat) : Bool :=
  match ops[j]? with
  | some oj => oj.after.any fun e => Region.binds .any e && e.on == i
  | none => false

def isLdAt (ops : Array Oper) (i : Nat) : Bool :=
  match ops[i]? with
  | some o => isLd o.op
  | none => false

/-- May an operation come ahead of some load? -/
def ndB (ops : Array Oper) (j : Nat) : Bool := (List.range ops.size).any fun i => isLdAt ops i && !waitsOn ops j i

/-- Do all that are left wait for all loads? -/
def freed (ops : Array Oper) (listed : Array Bool) : Bool := (List.range ops.size).all fun j => listed.getD j true || !ndB ops j

/-- The ways of a region, so many operations being left; no load is among these. -/
def cTreeB (P : Program) (nt : Nat) (ops : Array Oper) : Nat → Array Bool → Option Tree
  | 0, listed => if (Region.ready .any ops listed).isEmpty = true then some .leaf else none
  | n + 1, listed =>
    if (Region.ready .any ops listed).isEmpty = true then some .leaf else
    match (Region.ready .any ops listed).find? (takeB P nt ops false listed) with
    | some i => match cDrw P nt ops i, cTreeB P nt ops n (listed.setIfInBounds i true) with
      | some o, some t => some (.take o t)
      | _, _ => none
    | none => cAll (fun i => cTreeB P nt ops n (listed.setIfInBounds i true)) (cDrw P nt ops) (Region.ready .any ops listed)

/-- The ways of a region, so many operations being left. -/
def cTree (P : Program) (nt : Nat) (ops : Array Oper) (hm : Bool) : Nat → Bool → Array Bool → Option Tree
  | 0, _, listed => if (Region.ready .any ops listed).isEmpty = true then some .leaf else none
  | n + 1, ld, listed =>
    if (Region.ready .any ops listed).isEmpty = true then some .leaf else
    if freed ops listed = true then (cTreeB P nt ops (n + 1) listed).map .free else
    match (Region.ready .any ops listed).find? (takeB P nt ops ld listed) with
    | some i => match cDrw P nt ops i, cTree P nt ops hm n ld (listed.setIfInBounds i true) with
      | some o, some t => some (.take o t)
      | _, _ => none
    | none => cAll (fun i => cTree P nt ops hm n hm (listed.setIfInBounds i true)) (cDrw P nt ops) (Region.ready .any ops listed)

/-- Whatever order is picked, S being shown behind each operation that may come ahead of a load. -/
def wpAnyG (P : Program) (ops : Array Oper) (Q : Exit → Act → World → Prop) (S : World → Prop) : Nat → Array Bool → Act → World → Prop
  | 0, listed, a, w => Region.ready .any ops listed = [] ∧ Q .normal a w
  | fuel + 1, listed, a, w =>
    (Region.ready .any ops listed = [] → Q .normal a w) ∧
    ∀ i ∈ Region.ready .any ops listed, wpOp P ops Q i (fun a' w' => (ndB ops i = true → S w → S w') ∧ wpAnyG P ops Q S fuel (listed.setIfInBounds i true) a' w') a w

section
variable {P : Program} {ops : Array Oper} {Q : Exit → Act → World → Prop} {S : World → Prop}

theorem wpAny_of_G : ∀ (fuel : Nat) (listed : Array Bool) (a : Act) (w : World), wpAnyG P ops Q S fuel listed a w → wpAny P .any ops Q fuel listed a w
  | 0, _, _, _, h => h
  | fuel + 1, _, _, _, h => ⟨h.1, fun i hi => wpOp_mono (fun a' w' h' => wpAny_of_G fuel _ a' w' h'.2) (h.2 i hi)⟩

theorem freed_set {listed : Array Bool} {i : Nat} (h : freed ops listed = true) : freed ops (listed.setIfInBounds i true) = true := by
  simp only [freed, List.all_eq_true, List.mem_range, Bool.or_eq_true] at h ⊢
  intro j hj
  rcases h j hj with h | h
  · by_cases e : i = j
    · subst e
      left
      by_cases hlt : i < listed.size
      · simp [Array.getD_eq_getD_getElem?, hlt]
      · simp [Array.getD_eq_getD_getElem?, hlt]
    · left; rw [getD_set_ne true e]; exact h
  · exact .inr h

theorem freed_nd {listed : Array Bool} (h : freed ops listed = true) {i : Nat} (hi : i ∈ Region.ready .any ops listed) : ndB ops i = false := by
  simp only [freed, List.all_eq_true, List.mem_range, Bool.or_eq_true] at h
  obtain ⟨h1, o, h2, _⟩ := mem_ready.1 hi
  rcases h i (Array.getElem?_eq_some_iff.1 h2).1 with h3 | h3
  · rw [h1] at h3; cases h3
  · simpa using h3

theorem wpAnyG_of_any : ∀ (fuel : Nat) (listed : Array Bool) (a : Act) (w : World), freed ops listed = true → wpAny P .any ops Q fuel listed a w → wpAnyG P ops Q S fuel listed a w
  | 0, _, _, _, _, h => h
  | fuel + 1, _, _, _, hf, h => ⟨h.1, fun i hi => wpOp_mono (fun a' w' h' => ⟨fun hn => (by rw [freed_nd hf hi] at hn; cases hn), wpAnyG_of_any fuel _ a' w' (freed_set hf) h'⟩) (h.2 i hi)⟩

/-- One that may come up may be taken first: a load where S holds whenever it has not come up. -/
theorem wpAnyG_first {i : Nat} {oi : Oper} {v : Value} (hi : ops[i]? = some oi) (hsel : ∀ (j : Nat) (o : Oper) cs b, ops[j]? = some o → o.op ≠ .select cs b)
    (hQ : ∀ c a w, Q (.panic c) (a.put oi.dst v) w → Q (.panic c) a w) :
    ∀ (fuel : Nat) (listed : Array Bool) (a : Act) (w : World),
      (∀ j oj, ops[j]? = some oj → j ≠ i → listed.getD j true = false → (∀ e ∈ oj.after, Region.binds .any e = true → e.on ≠ i) → oi.apart ops oj = true) →
      i ∈ Region.ready .any ops listed → YieldsIf P ops (fun w' => isLd oi.op = true → S w') oi v a → S w →
      wpAnyG P ops Q S fuel (listed.setIfInBounds i true) (a.put oi.dst v) w → wpAnyG P ops Q S (fuel + 1) listed a w := by
  have main : ∀ (fuel : Nat) (listed : Array Bool) (a : Act) (w : World),
      (∀ j oj, ops[j]? = some oj → j ≠ i → listed.getD j true = false → (∀ e ∈ oj.after, Region.binds .any e = true → e.on ≠ i) → oi.apart ops oj = true) →
      i ∈ Region.ready .any ops listed → YieldsIf P ops (fun w' => isLd oi.op = true → S w') oi v a → (isLd oi.op = true → S w) →
      wpAnyG P ops Q S fuel (listed.setIfInBounds i true) (a.put oi.dst v) w → wpAnyG P ops Q S (fuel + 1) listed a w := by
    intro fuel
    induction fuel with
    | zero =>
      intro listed a w _ hr hy hS H
      refine ⟨fun h => (by rw [h] at hr; cases hr), fun j hj => ?_⟩
      by_cases hji : j = i
      · subst hji; exact hy.wpOp hi hS ⟨fun _ h => h, H⟩
      · have := ready_mono hj hji
        rw [H.1] at this
        cases this
    | succ fuel ih =>
      intro listed a w hfree hr hy hS H
      refine ⟨fun h => (by rw [h] at hr; cases hr), fun j hj => ?_⟩
      by_cases hji : j = i
      · subst hji; exact hy.wpOp hi hS ⟨fun _ h => h, H⟩
      · have hahead := H.2 j (ready_mono hj hji)
        obtain ⟨hjun, oj, hoj, hall⟩ := mem_ready.1 hj
        have hnot : ∀ e ∈ oj.after, Region.binds .any e = true → e.on ≠ i := by
          intro e he hb heq
          have hl := hall e he hb
          have hu := (mem_ready.1 hr).1
          rw [heq] at hl
          rcases Nat.lt_or_ge i listed.size with h' | h'
          · simp [h'] at hu hl; rw [hu] at hl; cases hl
          · simp [Array.getElem?_eq_none h'] at hl
        have hnd : isLd oi.op = true → ndB ops j = true := fun hl => by
          simp only [ndB, List.any_eq_true, List.mem_range, Bool.and_eq_true]
          refine ⟨i, (Array.getElem?_eq_some_iff.1 hi).1, by simp [isLdAt, hi, hl], ?_⟩
          simp only [waitsOn, hoj, Bool.not_eq_true', Array.any_eq_false]
          intro k hk hb
          simp only [Bool.and_eq_true, beq_iff_eq] at hb
          exact hnot _ (Array.getElem_mem hk) hb.1 hb.2
        have hput := wpOp_putIf hoj (hfree j oj hoj hji hjun hnot) (fun cs b => hsel i oi cs b hi) (fun cs b => hsel j oj cs b hoj) hQ hy hahead
        refine wpOp_mono (fun a' w' k => ⟨k.2.1, ih (listed.setIfInBounds j true) a' w' (fun m om hm hmi hun hno => hfree m om hm hmi ?_ hno) (ready_mono hr (Ne.symm hji)) k.1
          (fun hl => k.2.1 (hnd hl) (hS hl)) ?_⟩) hput
        · by_cases hjm : j = m
          · subst hjm; exact hjun
          · rw [getD_set_ne true hjm] at hun; exact hun
        · rw [Array.setIfInBounds_comm _ _ hji]
          exact k.2.2
  exact fun fuel listed a w h1 h2 h3 h4 h5 => main fuel listed a w h1 h2 h3 (fun _ => h4) h5

theorem wpAnyG_take {i : Nat} {oi : Oper} {v : Value} {fuel : Nat} {listed : Array Bool} {a : Act} {w : World} (hi : ops[i]? = some oi)
    (hs : Region.noSelect ops = true) (hf : Region.free .any ops listed i = true) (hr : (Region.ready .any ops listed).contains i = true)
    (hQ : ∀ c a w, Q (.panic c) (a.put oi.dst v) w → Q (.panic c) a w) (hy : YieldsIf P ops (fun w' => isLd oi.op = true → S w') oi v a) (hS : S w)
    (h : wpAnyG P ops Q S fuel (listed.setIfInBounds i true) (a.put oi.dst v) w) : wpAnyG P ops Q S (fuel + 1) listed a w :=
  wpAnyG_first hi (Region.noSelect_spec hs) hQ fuel listed a w (Region.free_spec hi hf) (by simpa using hr) hy hS h

theorem wpAnyG_all {rs : List Nat} {fuel : Nat} {listed : Array Bool} {a : Act} {w : World} (hr : Region.ready .any ops listed = rs) (hne : rs ≠ [])
    (h : ∀ i ∈ rs, wpOp P ops Q i (fun a' w' => S w' ∧ wpAnyG P ops Q S fuel (listed.setIfInBounds i true) a' w') a w) : wpAnyG P ops Q S (fuel + 1) listed a w :=
  ⟨fun h0 => absurd (hr ▸ h0) hne, hr ▸ fun i hi => wpOp_mono (fun a' w' k => ⟨fun _ _ => k.1, k.2⟩) (h i hi)⟩

theorem wpAnyG_done {listed : Array Bool} {a : Act} {w : World} (hr : Region.ready .any ops listed = []) (h : Q .normal a w) :
    ∀ fuel, wpAnyG P ops Q S fuel listed a w
  | 0 => ⟨hr, h⟩
  | _ + 1 => ⟨fun _ => h, by rw [hr]; simp⟩

theorem wpAnyG_of_H : ∀ (fuel : Nat) (listed : Array Bool) (a : Act) (w : World), wpAnyH P .any ops Q S fuel listed a w → wpAnyG P ops Q S fuel listed a w
  | 0, _, _, _, h => h
  | fuel + 1, _, _, _, h => ⟨h.1, fun i hi => wpOp_mono (fun a' w' k => ⟨fun _ _ => k.1, wpAnyG_of_H fuel _ a' w' k.2⟩) (h.2 i hi)⟩
end

section
variable {P : Program} {w0 w w' : World} {L0 L L' : Nat → Lc} {h : List Blk} {nt : Nat} {s s' : St} {a : Act}

/-- The blocks that are held are as they were. -/
structure HS (E1 : Env) (hd : List Nat) (w : World) (H : List Blk) (L : Nat → Lc) : Prop where
  sees : Sees E1 hd w
  ext : Ext E1 (envOf w H L)
  live : ∀ i, i ∈ hd → Live H i ∧ L i = E1.L i
  low : ∀ i b, i ∈ hd → (E1.L i).blk = some b → b < E1.w.heap.size

theorem HS.lt {E1 : Env} {hd : List Nat} {H : List Blk} (hh : HS E1 hd w H L) {i b : Nat} (hi : i ∈ hd) (hb : (E1.L i).blk = some b) : b < E1.w.heap.size := hh.low i b hi hb

theorem HS.step {E1 : Env} {hd ws : List Nat} {H H' : List Blk} (hh : HS E1 hd w H L) (hsame : Same w w' H L L' ws) (he : Ext (envOf w H L) (envOf w' H' L'))
    (hst : ∀ i, i ∉ ws → i < H.length → H'[i]? = H[i]?) (hws : (ws.all fun i => !hd.contains i) = true) : HS E1 hd w' H' L' := by
  have hn : ∀ i, i ∈ hd → i ∉ ws := fun i hi hm => by
    have := List.all_eq_true.1 hws i hm
    simp at this
    exact this hi
  refine ⟨fun b hb hor => ?_, hh.ext.trans he, fun i hi => ?_, ?_⟩
  · have h1 := hh.sees b hb hor
    rw [← h1]
    rcases hor with ho | ⟨id, hid, hL⟩
    · exact (he.keep b (Nat.lt_of_lt_of_le hb hh.ext.size) (hh.ext.keep b hb ho).2).1
    · obtain ⟨k1, k2⟩ := hh.live id hid
      have hlt : id < H.length := let ⟨x, hx, _⟩ := k1; (List.getElem?_eq_some_iff.1 hx).1
      exact (hsame id hlt (hn id hid)).2 k1 b (by rw [k2]; exact hL)
  · obtain ⟨⟨x, hx, lx⟩, k2⟩ := hh.live i hi
    have hlt : i < H.length := (List.getElem?_eq_some_iff.1 hx).1
    exact ⟨⟨x, by rw [hst i (hn i hi) hlt]; exact hx, lx⟩, (hsame i hlt (hn i hi)).1.trans k2⟩
  · exact hh.low

theorem isLd_load {P : Program} {drw : Option Nat} {o : Oper} {ao : AOp} (hc : cOp P drw o = some ao) (hl : isLd o.op = true) : ∃ g n p, ao = .load g n p := by
  cases ho : o.op with
  | load t p =>
    simp only [cOp, ho, bind, Option.bind_eq_some_iff] at hc
    obtain ⟨g, _, n, _, hc⟩ := hc
    split at hc
    · simp only [Option.bind_eq_some_iff] at hc
      obtain ⟨p, _, hc⟩ := hc
      cases hc
      exact ⟨_, _, _, rfl⟩
    · cases hc
  | _ => rw [ho] at hl; simp [isLd] at hl

theorem takeB_spec {ops : Array Oper} {ld : Bool} {listed : Array Bool} {i : Nat} {ao : AOper} (hc : cDrw P nt ops i = some ao) (hb : takeB P nt ops ld listed i = true) :
    takeable ld ao = true ∧ Region.free .any ops listed i = true := by
  simpa [takeB, hc] using hb

theorem cDrw_spec {ops : Array Oper} {i : Nat} {ao : AOper} (hc : cDrw P nt ops i = some ao) : ∃ o, ops[i]? = some o ∧ cOper P nt ops (some (allocNo ops i)) o = some ao := by
  unfold cDrw at hc
  split at hc
  · rename_i o ho; exact ⟨o, ho, hc⟩
  · cases hc

/-- What is taken first. -/
theorem evTake_ok {E1 : Env} {S : World → Prop} {rs : List Nat} (hs : SR w0 L0 h nt s a w L) {ops : Array Oper} {o : Oper} {drw : Option Nat} {ao : AOper} (hc : cOper P nt ops drw o = some ao)
    (he : evTake h s ao = some (s', rs)) (hS : ∀ w', S w' → isLd o.op = true → Sees (envOf w (full h s) L) rs w') :
    ∃ cv, YieldsIf P ops S o cv a ∧ SR w0 L0 h nt s' (a.put o.dst cv) w L ∧ full h s' = full h s := by
  unfold cOper at hc
  split at hc
  case h_2 => cases hc
  rename_i g hg
  split at hc
  case isFalse => cases hc
  rename_i hd'
  cases hc
  unfold evTake at he
  simp only at he
  obtain ⟨s1, c, hs1, hm1, ho1, hw, hcase⟩ := gdo_ok hs hg he
  have hf1 : full h s1 = full h s := by unfold full; rw [hm1, ho1]
  rcases hcase with ⟨rfl, he⟩ | ⟨rfl, he⟩
  · obtain ⟨⟨v, rs'⟩, hv, he⟩ := ob_some he
    cases he
    obtain ⟨op, hop, hgd'⟩ : ∃ op, cOp P drw o = some op ∧ (cOp P drw o).getD (.row 0 []) = op := by
      cases hq : cOp P drw o with
      | none => rw [hq] at hv; cases hv
      | some op => exact ⟨op, rfl, rfl⟩
    rw [hgd'] at hv
    rw [← hf1] at hS
    obtain ⟨cv, h1, h2⟩ := evP_ok hs1.hr hs1.tr hop hv
    refine ⟨cv, .inl ⟨hw, fun w' hw' => h2 w' (fun hl => hS w' hw' hl)⟩, ?_, ?_⟩
    · exact hs1.go hd' hs1.hr rfl h1 (.refl _) (ws := []) (fun _ _ _ => ⟨rfl, fun _ _ _ => rfl⟩) (.refl _ _) (hlive_all h s1)
    · rw [← hf1]; cases o.dst <;> rfl
  · cases he
    refine ⟨undef, .inr ⟨hw, rfl⟩, ?_, ?_⟩
    · exact hs1.go hd' hs1.hr rfl .undef (.refl _) (ws := []) (fun _ _ _ => ⟨rfl, fun _ _ _ => rfl⟩) (.refl _ _) (hlive_all h s1)
    · rw [← hf1]; cases o.dst <;> rfl

variable {E : FnS} {ops : Array Oper} {Q : Exit → Act → World → Prop}

theorem takeable_ld {ops : Array Oper} {o : Oper} {drw : Option Nat} {ao : AOper} (hc : cOper P nt ops drw o = some ao) (ht : takeable false ao = true) : isLd o.op = false := by
  cases hl : isLd o.op with
  | false => rfl
  | true =>
    exfalso
    unfold cOper at hc
    split at hc
    case h_2 => cases hc
    split at hc
    case isFalse => cases hc
    cases hc
    cases hq : cOp P drw o with
    | none => rw [hq] at ht; simp [takeable, AOp.acts] at ht
    | some op =>
      obtain ⟨g, n, p, e⟩ := isLd_load hq hl
      subst e
      rw [hq] at ht
      simp [takeable, AOp.acts] at ht

theorem ite_some {α : Type} {c : Bool} {x : Option α} {r : α} (h : (if c = true then x else none) = some r) : c = true ∧ x = some r := by
  split at h
  · exact ⟨by assumption, h⟩
  · cases h

theorem evTakeM_ok {E1 : Env} {hd rs : List Nat} (hs : SR w0 L0 h nt s a w L) (hh : HS E1 hd w (full h s) L) {ops : Array Oper} {o : Oper} {drw : Option Nat} {ao : AOper} (hc : cOper P nt ops drw o = some ao)
    (hok : ldOk s hd ao = true) (he : evTake h s ao = some (s', rs)) :
    ∃ cv, YieldsIf P ops (fun w' => isLd o.op = true → Sees E1 hd w') o cv a ∧ SR w0 L0 h nt s' (a.put o.dst cv) w L ∧ full h s' = full h s := by
  cases hl : isLd o.op with
  | false =>
    obtain ⟨cv, h1, h2, h3⟩ := evTake_ok (E1 := E1) (S := fun _ => True) hs hc he (fun w' _ hl' => by rw [hl] at hl'; cases hl')
    refine ⟨cv, ?_, h2, h3⟩
    rcases h1 with ⟨y1, y2⟩ | y
    · exact .inl ⟨y1, fun w' _ => y2 w' trivial⟩
    · exact .inr y
  | true =>
    unfold cOper at hc
    split at hc
    case h_2 => cases hc
    rename_i g hg
    split at hc
    case isFalse => cases hc
    rename_i hd'
    cases hc
    unfold evTake at he
    simp only at he
    obtain ⟨s1, c, hs1, hm1, ho1, hw, hcase⟩ := gdo_ok2 hs hg he
    have hf1 : full h s1 = full h s := by unfold full; rw [hm1, ho1]
    rcases hcase with ⟨rfl, he, hoff, hlk⟩ | ⟨rfl, he⟩
    · obtain ⟨⟨v, rs'⟩, hv, he⟩ := ob_some he
      cases he
      obtain ⟨op, hop, hgd'⟩ : ∃ op, cOp P drw o = some op ∧ (cOp P drw o).getD (.row 0 []) = op := by
        cases hq : cOp P drw o with
        | none => rw [hq] at hv; cases hv
        | some op => exact ⟨op, rfl, rfl⟩
      rw [hgd'] at hv hok
      obtain ⟨ag, n, p, e⟩ := isLd_load hop hl
      subst e
      simp only [ldOk, hoff, Bool.false_or] at hok
      -- the variable that is loaded
      have hptr : ∃ id off, val s p = some (.ptr id off) ∧ id ∈ hd := by
        split at hok
        · rename_i id off hp; exact ⟨id, off, hp, by simpa using hok⟩
        · cases hok
      obtain ⟨id, off, hp, hmem⟩ := hptr
      have hp1 : val s1 p = some (.ptr id off) := by
        cases p with
        | t n => simp only [val] at hp ⊢; exact hlk n _ hp (fun b hb => by cases hb)
        | c v => simpa only [val] using hp
      cases hoo : o.op with
      | load t pp =>
        obtain ⟨dst, oop, ty, pos, after, gdd⟩ := o
        simp only at hoo
        subst hoo
        simp only [cOp] at hop
        obtain ⟨ag', ha, hop⟩ := bind_some_inv hop
        obtain ⟨n', hn, hop⟩ := bind_some_inv hop
        split at hop
        case isFalse => cases hop
        rename_i hcond
        obtain ⟨X, hx, hop⟩ := bind_some_inv hop
        cases hop
        obtain ⟨cv, h1, h2⟩ := y_loadP hs1.hr hs1.tr (dst := dst) (ty := ty) (pos := pos) (after := after) (gd := gdd) ha hn hcond hx hp1 hv
        refine ⟨cv, .inl ⟨hw, fun w' hw' => h2 w' (fun b hb => ?_)⟩, ?_, ?_⟩
        · obtain ⟨⟨x, hx1, hx2⟩, hLi⟩ := hh.live id hmem
          have e1 := hw' rfl b (by
            have hb1 : (E1.L id).blk = some b := by rw [← hLi]; exact hb
            exact hh.lt hmem hb1) (.inr ⟨id, hmem, by rw [← hLi]; exact hb⟩)
          have e2 := hh.sees b (by
            have hb1 : (E1.L id).blk = some b := by rw [← hLi]; exact hb
            exact hh.lt hmem hb1) (.inr ⟨id, hmem, by rw [← hLi]; exact hb⟩)
          rw [e1, e2]
        · exact hs1.go hd' hs1.hr rfl h1 (.refl _) (ws := []) (fun _ _ _ => ⟨rfl, fun _ _ _ => rfl⟩) (.refl _ _) (hlive_all h s1)
        · rw [← hf1]; cases dst <;> rfl
      | _ => rw [hoo] at hl; simp [isLd] at hl
    · cases he
      refine ⟨undef, .inr ⟨hw, rfl⟩, ?_, ?_⟩
      · exact hs1.go hd' hs1.hr rfl .undef (.refl _) (ws := []) (fun _ _ _ => ⟨rfl, fun _ _ _ => rfl⟩) (.refl _ _) (hlive_all h s1)
      · rw [← hf1]; cases o.dst <;> rfl

theorem evTreeB_ok (hE : FnOk P E) (hsel : Region.noSelect ops = true) (hP : ∀ c a w, ¬ Q (.panic c) a w) {E1 : Env} {nb : Nat} {hd lv : List Nat} :
    ∀ (n : Nat) (listed : Array Bool) (t : Tree) (s : St) (a : Act) (w : World) (L : Nat → Lc), cTreeB P nt ops n listed = some t → SR w0 L0 h nt s a w L → HS E1 hd w (full h s) L →
      evTree E h nb lv hd t s = some s' → (∀ a' w' L', SR w0 L0 h nt s' a' w' L' → Q .normal a' w') → wpAnyH P .any ops Q (Sees E1 hd) n listed a w := by
  intro n
  induction n with
  | zero =>
    intro listed t s a w L hc hs hh he hQ
    simp only [cTreeB] at hc
    split at hc
    case isFalse => cases hc
    rename_i hr
    cases hc
    simp only [evTree] at he
    cases he
    exact wpAnyH_done (by simpa using hr) (hQ a w L (hs.kp lv)) 0
  | succ n ih =>
    intro listed t s a w L hc hs hh he hQ
    simp only [cTreeB] at hc
    split at hc
    · rename_i hr
      cases hc
      simp only [evTree] at he
      cases he
      exact wpAnyH_done (by simpa using hr) (hQ a w L (hs.kp lv)) _
    rename_i hne
    split at hc
    · rename_i i hfi
      split at hc
      case h_2 => cases hc
      rename_i ao t' hco hct
      cases hc
      obtain ⟨o, ho, hcc⟩ := cDrw_spec hco
      obtain ⟨htk, hfree⟩ := takeB_spec hco (List.find?_some hfi)
      simp only [evTree] at he
      split at he
      case h_2 => cases he
      rename_i s1 rs h1
      obtain ⟨_, h1⟩ := ite_some h1
      obtain ⟨cv, hy, hs1, hf⟩ := evTake_ok (E1 := E1) (S := Sees E1 hd) hs hcc h1 (fun w' _ hl => by rw [takeable_ld hcc htk] at hl; cases hl)
      refine wpAnyH_take ho hsel hfree (by simpa using List.mem_of_find?_eq_some hfi) (fun c a w hq => absurd hq (hP _ _ _)) hy hh.sees ?_
      exact ih _ t' s1 _ w L hct hs1 (by rw [hf]; exact hh) he hQ
    · refine wpAnyH_all rfl (by simpa using hne) ?_
      generalize Region.ready .any ops listed = l at hc
      have key : ∀ (l : List Nat) (t : Tree), cAll (fun i => cTreeB P nt ops n (listed.setIfInBounds i true)) (cDrw P nt ops) l = some t → evTree E h nb lv hd t s = some s' →
          ∀ i ∈ l, wpOp P ops Q i (fun a' w' => Sees E1 hd w' ∧ wpAnyH P .any ops Q (Sees E1 hd) n (listed.setIfInBounds i true) a' w') a w := by
        intro l
        have one : ∀ (i : Nat) (ao : AOper) (t : Tree) (s1 : St) (ws : List Nat), cDrw P nt ops i = some ao → cTreeB P nt ops n (listed.setIfInBounds i true) = some t →
            evOne E h nb hd s ao = some (s1, ws) → (ws.all fun i => !hd.contains i) = true → evTree E h nb lv hd t s1 = some s' →
            wpOp P ops Q i (fun a' w' => Sees E1 hd w' ∧ wpAnyH P .any ops Q (Sees E1 hd) n (listed.setIfInBounds i true) a' w') a w := by
          intro i ao t s1 ws hco hct h1 hws h2
          obtain ⟨o, ho, hcc⟩ := cDrw_spec hco
          refine evOne_ok hE hs ho hcc h1 fun a' w' L' k1 k2 k3 k4 => ?_
          have hh' := hh.step k2 k3 k4 hws
          exact ⟨hh'.sees, ih _ t s1 a' w' L' hct k1 hh' h2 hQ⟩
        induction l with
        | nil => intro t hc; cases hc
        | cons i r ihl =>
          intro t hc he
          cases r with
          | nil =>
            simp only [cAll] at hc
            split at hc
            case h_2 => cases hc
            rename_i ao t' hco hct
            cases hc
            simp only [evTree] at he
            split at he
            case h_2 => cases he
            rename_i s1 ws h1
            split at he
            case isFalse => cases he
            rename_i hws
            intro j hj
            simp at hj
            subst hj
            exact one j ao t' s1 ws hco hct h1 hws he
          | cons i2 r2 =>
            simp only [cAll] at hc
            split at hc
            case h_2 => cases hc
            rename_i ao t' r' hco hct hcr
            cases hc
            simp only [evTree] at he
            split at he
            case h_2 => cases he
            rename_i s1 ws h1
            split at he
            case isFalse => cases he
            rename_i hws
            split at he
            case h_2 => cases he
            rename_i x y hx hy
            split at he
            case isFalse => cases he
            rename_i hxy
            subst hxy
            cases he
            intro j hj
            rcases List.mem_cons.1 hj with rfl | hj
            · exact one j ao t' s1 ws hco hct h1 hws hx
            · exact ihl r' (by simpa only [cAll] using hcr) hy j hj
      exact key l t hc he

theorem evTree_ok {hm : Bool} (hE : FnOk P E) (hsel : Region.noSelect ops = true) (hP : ∀ c a w, ¬ Q (.panic c) a w) {E1 : Env} {nb : Nat} {hd lv : List Nat} :
    ∀ (n : Nat) (listed : Array Bool) (t : Tree) (s : St) (a : Act) (w : World) (L : Nat → Lc), cTree P nt ops hm n hm listed = some t → SR w0 L0 h nt s a w L → HS E1 hd w (full h s) L →
      evTree E h nb lv hd t s = some s' → (∀ a' w' L', SR w0 L0 h nt s' a' w' L' → Q .normal a' w') → wpAnyG P ops Q (Sees E1 hd) n listed a w := by
  intro n
  induction n with
  | zero =>
    intro listed t s a w L hc hs hh he hQ
    simp only [cTree] at hc
    split at hc
    case isFalse => cases hc
    rename_i hr
    cases hc
    simp only [evTree] at he
    cases he
    exact wpAnyG_done (by simpa using hr) (hQ a w L (hs.kp lv)) 0
  | succ n ih =>
    intro listed t s a w L hc hs hh he hQ
    simp only [cTree] at hc
    split at hc
    · rename_i hr
      cases hc
      simp only [evTree] at he
      cases he
      exact wpAnyG_done (by simpa using hr) (hQ a w L (hs.kp lv)) _
    rename_i hne
    split at hc
    · rename_i hfr
      cases hq : cTreeB P nt ops (n + 1) listed with
      | none => rw [hq] at hc; cases hc
      | some t' =>
        rw [hq] at hc
        cases hc
        simp only [evTree] at he
        refine wpAnyG_of_any _ _ _ _ hfr (wpAny_of_held _ _ _ _ (evTreeB_ok hE hsel hP (E1 := envOf w (full h s) L) (hd := []) (n + 1) listed t' s a w L hq hs ?_ he hQ))
        exact ⟨.self _ _, .refl _, (fun i hi => by cases hi), fun i b hi => by cases hi⟩
    split at hc
    · rename_i i hfi
      split at hc
      case h_2 => cases hc
      rename_i ao t' hco hct
      cases hc
      obtain ⟨o, ho, hcc⟩ := cDrw_spec hco
      obtain ⟨htk, hfree⟩ := takeB_spec hco (List.find?_some hfi)
      simp only [evTree] at he
      split at he
      case h_2 => cases he
      rename_i s1 rs h1
      obtain ⟨hok, h1⟩ := ite_some h1
      obtain ⟨cv, hy, hs1, hf⟩ := evTakeM_ok (E1 := E1) hs hh hcc hok h1
      refine wpAnyG_take ho hsel hfree (by simpa using List.mem_of_find?_eq_some hfi) (fun c a w hq => absurd hq (hP _ _ _)) hy hh.sees ?_
      exact ih _ t' s1 _ w L hct hs1 (by rw [hf]; exact hh) he hQ
    · refine wpAnyG_all rfl (by simpa using hne) ?_
      generalize Region.ready .any ops listed = l at hc
      have key : ∀ (l : List Nat) (t : Tree), cAll (fun i => cTree P nt ops hm n hm (listed.setIfInBounds i true)) (cDrw P nt ops) l = some t → evTree E h nb lv hd t s = some s' →
          ∀ i ∈ l, wpOp P ops Q i (fun a' w' => Sees E1 hd w' ∧ wpAnyG P ops Q (Sees E1 hd) n (listed.setIfInBounds i true) a' w') a w := by
        intro l
        have one : ∀ (i : Nat) (ao : AOper) (t : Tree) (s1 : St) (ws : List Nat), cDrw P nt ops i = some ao → cTree P nt ops hm n hm (listed.setIfInBounds i true) = some t →
            evOne E h nb hd s ao = some (s1, ws) → (ws.all fun i => !hd.contains i) = true → evTree E h nb lv hd t s1 = some s' →
            wpOp P ops Q i (fun a' w' => Sees E1 hd w' ∧ wpAnyG P ops Q (Sees E1 hd) n (listed.setIfInBounds i true) a' w') a w := by
          intro i ao t s1 ws hco hct h1 hws h2
          obtain ⟨o, ho, hcc⟩ := cDrw_spec hco
          refine evOne_ok hE hs ho hcc h1 fun a' w' L' k1 k2 k3 k4 => ?_
          have hh' := hh.step k2 k3 k4 hws
          exact ⟨hh'.sees, ih _ t s1 a' w' L' hct k1 hh' h2 hQ⟩
        induction l with
        | nil => intro t hc; cases hc
        | cons i r ihl =>
          intro t hc he
          cases r with
          | nil =>
            simp only [cAll] at hc
            split at hc
            case h_2 => cases hc
            rename_i ao t' hco hct
            cases hc
            simp only [evTree] at he
            split at he
            case h_2 => cases he
            rename_i s1 ws h1
            split at he
            case isFalse => cases he
            rename_i hws
            intro j hj
            simp at hj
            subst hj
            exact one j ao t' s1 ws hco hct h1 hws he
          | cons i2 r2 =>
            simp only [cAll] at hc
            split at hc
            case h_2 => cases hc
            rename_i ao t' r' hco hct hcr
            cases hc
            simp only [evTree] at he
            split at he
            case h_2 => cases he
            rename_i s1 ws h1
            split at he
            case isFalse => cases he
            rename_i hws
            split at he
            case h_2 => cases he
            rename_i x y hx hy
            split at he
            case isFalse => cases he
            rename_i hxy
            subst hxy
            cases he
            intro j hj
            rcases List.mem_cons.1 hj with rfl | hj
            · exact one j ao t' s1 ws hco hct h1 hws hx
            · exact ihl r' (by simpa only [cAll] using hcr) hy j hj
      exact key l t hc he

theorem sees_mono {E1 : Env} {hd hd' : List Nat} (hsub : ∀ i, i ∈ hd → i ∈ hd') {w : World} (hw : Sees E1 hd' w) : Sees E1 hd w :=
  fun b hb ho => hw b hb (ho.imp id fun ⟨i, hi, hL⟩ => ⟨i, hsub i hi, hL⟩)

theorem evLead_ok {hm : Bool} (hE : FnOk P E) (hsel : Region.noSelect ops = true) (hP : ∀ c a w, ¬ Q (.panic c) a w) {nb : Nat} {lv : List Nat} (hQ : ∀ a' w' L', SR w0 L0 h nt s' a' w' L' → Q .normal a' w') :
    ∀ (n : Nat) (listed : Array Bool) (t : Tree) (s : St) (hd : List Nat) (a : Act) (w : World) (L : Nat → Lc), cTree P nt ops hm n true listed = some t → SR w0 L0 h nt s a w L →
      evLead E h nb lv hd t s = some s' → ∃ hdF, (∀ i, i ∈ hd → i ∈ hdF) ∧ wpAnyG P ops Q (Sees (envOf w (full h s) L) hdF) n listed a w := by
  intro n
  have stop : ∀ (n : Nat) (listed : Array Bool) (t : Tree) (s : St) (hd : List Nat) (a : Act) (w : World) (L : Nat → Lc), cTree P nt ops hm n hm listed = some t → SR w0 L0 h nt s a w L →
      (if (hd.all (isLiveB (full h s))) = true then evTree E h nb lv hd t s else none) = some s' → ∃ hdF, (∀ i, i ∈ hd → i ∈ hdF) ∧ wpAnyG P ops Q (Sees (envOf w (full h s) L) hdF) n listed a w := by
    intro n listed t s hd a w L hc hs he
    split at he
    case isFalse => cases he
    rename_i hl
    exact ⟨hd, fun _ h => h, evTree_ok hE hsel hP n listed t s a w L hc hs ⟨.self _ _, .refl _, fun i hi => ⟨isLiveB_iff.1 (List.all_eq_true.1 hl i hi), rfl⟩, fun i b hi hb => by
      obtain ⟨x, hx, lx⟩ := isLiveB_iff.1 (List.all_eq_true.1 hl i hi)
      exact (hs.hr.blk i x hx).lt lx hb⟩ he hQ⟩
  induction n with
  | zero =>
    intro listed t s hd a w L hc hs he
    simp only [cTree] at hc
    split at hc
    case isFalse => cases hc
    rename_i hr
    cases hc
    exact stop 0 listed .leaf s hd a w L (by simp only [cTree]; rw [if_pos hr]) hs (by simpa only [evLead] using he)
  | succ n ih =>
    intro listed t s hd a w L hc hs he
    simp only [cTree] at hc
    split at hc
    · rename_i hr
      cases hc
      exact stop (n + 1) listed .leaf s hd a w L (by simp only [cTree]; rw [if_pos hr]) hs (by simpa only [evLead] using he)
    rename_i hne
    split at hc
    · rename_i hfr
      cases hq : cTreeB P nt ops (n + 1) listed with
      | none => rw [hq] at hc; cases hc
      | some t' =>
        rw [hq] at hc
        cases hc
        refine stop (n + 1) listed (.free t') s hd a w L (by simp only [cTree]; rw [if_neg hne, if_pos hfr, hq]; rfl) hs (by simpa only [evLead] using he)
    rename_i hnfr
    split at hc
    · rename_i i hfi
      split at hc
      case h_2 => cases hc
      rename_i ao t' hco hct
      cases hc
      obtain ⟨o, ho, hcc⟩ := cDrw_spec hco
      obtain ⟨htk, hfree⟩ := takeB_spec hco (List.find?_some hfi)
      simp only [evLead] at he
      split at he
      case h_2 => cases he
      rename_i s1 rs h1
      have hf0 : full h s1 = full h s ∧ True := ⟨by
        obtain ⟨cv, hy, hs1, hf⟩ := evTake_ok (E1 := envOf w (full h s) L) (S := fun _ => False) hs hcc h1 (fun w' hw' _ => hw'.elim)
        exact hf, trivial⟩
      obtain ⟨cv0, _, hs0, hf⟩ := evTake_ok (E1 := envOf w (full h s) L) (S := fun _ => False) hs hcc h1 (fun w' hw' _ => hw'.elim)
      have h2 := ih (listed.setIfInBounds i true) t' s1 (rs ++ hd)
      have : ∃ hdF, (∀ i, i ∈ rs ++ hd → i ∈ hdF) ∧ ∃ cv, YieldsIf P ops (fun w' => isLd o.op = true → Sees (envOf w (full h s) L) hdF w') o cv a ∧ wpAnyG P ops Q (Sees (envOf w (full h s) L) hdF) n (listed.setIfInBounds i true) (a.put o.dst cv) w := by
        obtain ⟨cv, hy, hs1, _⟩ := evTake_ok (E1 := envOf w (full h s) L) (S := fun w' => isLd o.op = true → Sees (envOf w (full h s) L) rs w') hs hcc h1 (fun w' hw' hl => hw' hl)
        obtain ⟨hdF, k1, k2⟩ := h2 (a.put o.dst cv) w L hct hs1 he
        rw [hf] at k2
        refine ⟨hdF, k1, cv, ?_, k2⟩
        rcases hy with ⟨y1, y2⟩ | y
        · exact .inl ⟨y1, fun w' hw' => y2 w' (fun hl => sees_mono (fun i hi => k1 i (List.mem_append.2 (.inl hi))) (hw' hl))⟩
        · exact .inr y
      obtain ⟨hdF, k1, cv, hy, k2⟩ := this
      refine ⟨hdF, fun i hi => k1 i (List.mem_append.2 (.inr hi)), ?_⟩
      exact wpAnyG_take ho hsel hfree (by simpa using List.mem_of_find?_eq_some hfi) (fun c a w hq => absurd hq (hP _ _ _)) hy (.self _ _) k2
    · rename_i hno
      have hno' : (Region.ready .any ops listed).find? (takeB P nt ops hm listed) = none := by
        cases hm with
        | true => exact hno
        | false =>
        rw [List.find?_eq_none] at hno ⊢
        intro i hi hb
        refine hno i hi ?_
        unfold takeB at hb ⊢
        split at hb
        · simp only [Bool.and_eq_true] at hb ⊢
          refine ⟨?_, hb.2⟩
          have := hb.1
          unfold takeable at this ⊢
          simp only [Bool.and_eq_true] at this ⊢
          refine ⟨this.1, ?_⟩
          have h2 := this.2
          split at h2 <;> first | (cases h2; done) | rfl | (split <;> simp_all)
        · cases hb
      refine stop (n + 1) listed t s hd a w L (by simp only [cTree]; rw [if_neg hne, if_neg hnfr, hno']; exact hc) hs ?_
      generalize Region.ready .any ops listed = l at hc
      cases t with
      | take o t =>
        exfalso
        cases l with
        | nil => cases hc
        | cons i r => cases r <;> (simp only [cAll] at hc; split at hc <;> cases hc)
      | hold ts t =>
        exfalso
        cases l with
        | nil => cases hc
        | cons i r => cases r <;> (simp only [cAll] at hc; split at hc <;> cases hc)
      | _ => simpa only [evLead] using he

/-- A region that draws. -/
theorem evDrw_ok {hh : Bool} (hE : FnOk P E) (hm : P.follows .mixedOrders = true) (hsel : Region.noSelect ops = true) (hP : ∀ c a w, ¬ Q (.panic c) a w) {id nb : Nat} {lv : List Nat} {t : Tree}
    (hc : cTree P nt ops hh ops.size true (Array.replicate ops.size false) = some t) (hs : SR w0 L0 h nt s a w L) {hd0 : List Nat}
    (he : evLead E h (h.length + s.o.length) lv hd0 t (pends s nb) = some s') (hQ : ∀ a' w' L', SR w0 L0 h nt s' a' w' L' → Q .normal a' w') : (Code.region id ops true).wp P Q a w := by
  have hs1 : SR w0 L0 h nt s a { w with drawn := w.drawn + 1 } L := by
    obtain ⟨h1, h2⟩ := hs.hr.grow (Grows.drew w (w.drawn + 1))
    exact ⟨h1, hs.tr.mono h2, hs.df, hs.sz, hs.ext.trans h2, fun id hid hn => hs.same id hid hn⟩
  have hs2 : ∀ (nb : Nat) , ∃ L', SR w0 L0 h nt (pends s nb) a { w with drawn := w.drawn + 1 } L' := by
    intro nb
    induction nb with
    | zero => exact ⟨L, by simpa [pends] using hs1⟩
    | succ nb ih =>
      obtain ⟨L', hs'⟩ := ih
      have hf : full h (pends s (nb + 1)) = full h (pends s nb) ++ [.pend] := by
        simp [full, pends, List.replicate_succ']
      obtain ⟨k1, k2, k3⟩ := hs'.hr.add_same (Grows.refl _) .pend ⟨none, 0, 0, false⟩ (by simp) (fun _ => by
        refine ⟨?_, ?_, ?_⟩
        · show ((updL L' _ _) _).st = false; rw [updL_self]
        · show ((updL L' _ _) _).gen = 0; rw [updL_self]
        · show ((updL L' _ _) _).blk = none; rw [updL_self]) []
      rw [← hf] at k1 k2
      refine ⟨_, k1, hs'.tr.mono k2, hs'.df, hs'.sz, hs'.ext.trans k2, fun i hi hn => ?_⟩
      obtain ⟨j1, j2⟩ := hs'.same i hi hn
      have hi' : i < (full h (pends s nb)).length := by rw [full_length]; show i < h.length + (pends s nb).o.length; omega
      exact ⟨by rw [updL_ne _ _ _ (by omega)]; exact j1, j2⟩
  obtain ⟨L1, hs3⟩ := hs2 nb
  obtain ⟨hdF, _, k⟩ := evLead_ok hE hsel hP hQ ops.size _ t _ hd0 a _ L1 hc hs3 he
  exact wp_region_any hm (wpAny_of_G _ _ _ _ k)

end
end Go.AM
end

section
set_option linter.unusedSimpArgs false
set_option linter.unusedVariables false
namespace Go.AM
open Go

def allocs (ops : Array Oper) : Nat := allocNo ops ops.size

/-- Code that nobody comes to. -/
def dead : IC := .reg [] [⟨none, none, .row 0 []⟩]

/-- The abstract machine's code of a code: behind each part the temporaries that are told of further on are kept (as handed). -/
def cCode (P : Program) (nt : Nat) : Code → List (List Nat) → Option (IC × List (List Nat))
  | .skip, hs => some (.skip, hs)
  | .region _ ops draw, hs => match hs with
    | lv :: hs => if draw = true then match hs with
        | ts :: hs => (if Region.noSelect ops = true then match cTree P nt ops (!ts.isEmpty) ops.size true (Array.replicate ops.size false) with
          | some t => some (.drw lv (allocs ops) (if ts.isEmpty = true then t else .hold ts t), hs)
          | none => none else none)
        | [] => none
        else match cOps P nt ops ops.toList with
          | some al => some (.reg lv al, hs)
          | none => none
    | [] => none
  | .seq a b, hs => match cCode P nt a hs with
    | some (x, hs) => match cCode P nt b hs with
      | some (y, hs) => some (.seq x y, hs)
      | none => none
    | none => none
  | .cond c a b, hs => match hs with
    | lv :: hs => match cOpd c with
      | some c => match cCode P nt a hs with
        | some (x, hs) => match cCode P nt b hs with
          | some (y, hs) => some (.cond lv c x y, hs)
          | none => none
        | none => none
      | none => none
    | [] => none
  | .block id a, hs => match hs with
    | lv :: hs => match cCode P nt a hs with
      | some (x, hs) => some (.block lv id x, hs)
      | none => none
    | [] => none
  | .loop a, hs => match hs with
    | lv :: hs => match cCode P nt a hs with
      | some (x, hs) => some (.loop lv [] x, hs)
      | none => none
    | [] => none
  | .exit id, hs => some (.exit id, hs)
  | .label _, hs => some (.skip, hs)
  | .scope a, hs => cCode P nt a hs
  | .ret, hs => some (.ret, hs)
  | _, hs => some (dead, hs)

theorem dead_none {E : FnS} {h : List Blk} {s : St} : evCode E h dead s = none := by
  simp only [dead, evCode, evOps, evOne, gdo, exOp, AOp.acts, evP]
  rfl

def exOf : Ex → Exit
  | .normal => .normal
  | .exit id => .exit id
  | .ret => .ret

theorem lim_some {α : Type} {f : Nat → Option α} {r : α} (h : lim f = some r) : ∃ n, f n = some r := by
  unfold lim at h
  split at h
  · rename_i hx; exact ⟨_, h⟩
  · cases h

section
variable {P : Program} {w0 : World} {L0 : Nat → Lc} {h : List Blk} {nt : Nat} {E : FnS}

/-- What a code ends in. -/
def Ends (w0 : World) (L0 : Nat → Lc) (h : List Blk) (nt : Nat) (e : Ex) (s : St) : Exit → Act → World → Prop :=
  fun e' a' w' => e' = exOf e ∧ ∃ L', SR w0 L0 h nt s a' w' L'

theorem kpN_inv {lv : List Nat} {r : Out} {e : Ex} {s' : St} (he : kpN lv r = some (e, s')) : ∃ s1, r = some (e, s1) ∧ ((e = .normal ∧ s' = s1.kp lv) ∨ (e ≠ .normal ∧ s' = s1)) := by
  unfold kpN at he
  split at he
  · cases he; exact ⟨_, rfl, .inl ⟨rfl, rfl⟩⟩
  · rename_i hn
    subst he
    exact ⟨s', rfl, .inr ⟨fun e' => hn s' (by rw [e']), rfl⟩⟩

theorem ends_kp {lv : List Nat} {r : Out} {e : Ex} {s' : St} {e' : Exit} {a' : Act} {w' : World} (he : kpN lv r = some (e, s')) (hr : ∀ s1, r = some (e, s1) → Ends w0 L0 h nt e s1 e' a' w') :
    Ends w0 L0 h nt e s' e' a' w' := by
  obtain ⟨s1, h1, h2⟩ := kpN_inv he
  obtain ⟨k1, L', k2⟩ := hr s1 h1
  rcases h2 with ⟨rfl, rfl⟩ | ⟨_, rfl⟩
  · exact ⟨k1, L', k2.kp lv⟩
  · exact ⟨k1, L', k2⟩

theorem evCode_ok (hE : FnOk P E) (hm : P.follows .mixedOrders = true) : ∀ (c : Code) (hs : List (List Nat)) (ic : IC) (hs' : List (List Nat)), cCode P nt c hs = some (ic, hs') →
    ∀ (s : St) (a : Act) (w : World) (L : Nat → Lc) (e : Ex) (s' : St), SR w0 L0 h nt s a w L → evCode E h ic s = some (e, s') → c.wp P (Ends w0 L0 h nt e s') a w := by
  intro c
  induction c with
  | skip =>
    intro hs ic hs' hc s a w L e s' hsr he
    cases hc
    simp only [evCode] at he
    cases he
    exact wp_skip ⟨rfl, L, hsr⟩
  | label l =>
    intro hs ic hs' hc s a w L e s' hsr he
    cases hc
    simp only [evCode] at he
    cases he
    exact wp_label ⟨rfl, L, hsr⟩
  | scope x ihx =>
    intro hs ic hs' hc s a w L e s' hsr he
    simp only [cCode] at hc
    refine wp_scope_straight (wp_mono (ihx hs ic hs' hc s a w L e s' hsr he) fun e' a' w' k => ?_)
    obtain ⟨k1, k2⟩ := k
    subst k1
    cases e <;> exact ⟨rfl, k2⟩
  | exit id =>
    intro hs ic hs' hc s a w L e s' hsr he
    cases hc
    simp only [evCode] at he
    cases he
    exact wp_exit ⟨rfl, L, hsr⟩
  | ret =>
    intro hs ic hs' hc s a w L e s' hsr he
    cases hc
    simp only [evCode] at he
    cases he
    exact wp_ret ⟨rfl, L, hsr⟩
  | region id ops draw =>
    intro hs ic hs' hc s a w L e s' hsr he
    simp only [cCode] at hc
    split at hc
    case h_2 => cases hc
    rename_i lv hs1
    split at hc
    · rename_i hd
      subst hd
      split at hc
      case h_2 => cases hc
      rename_i ts hs2
      split at hc
      case isFalse => cases hc
      rename_i hsel
      split at hc
      case h_2 => cases hc
      rename_i t ht
      cases hc
      simp only [evCode] at he
      by_cases hts : ts.isEmpty = true
      · rw [if_pos hts] at he
        cases hq : evLead E h (h.length + s.o.length) lv [] t (pends s (allocs ops)) with
        | none => rw [hq] at he; cases he
        | some s1 =>
          rw [hq] at he
          cases he
          exact evDrw_ok hE hm hsel (fun c a w hq => by cases hq.1) ht hsr hq fun a' w' L' k => ⟨rfl, L', k⟩
      · rw [if_neg hts] at he
        simp only [evLead] at he
        cases hq : evLead E h (h.length + s.o.length) lv (holdIds (pends s (allocs ops)) ts ++ []) t (pends s (allocs ops)) with
        | none => rw [hq] at he; cases he
        | some s1 =>
          rw [hq] at he
          cases he
          exact evDrw_ok hE hm hsel (fun c a w hq => by cases hq.1) ht hsr hq fun a' w' L' k => ⟨rfl, L', k⟩
    · rename_i hd
      have : draw = false := by simpa using hd
      subst this
      split at hc
      case h_2 => cases hc
      rename_i al hal
      cases hc
      simp only [evCode] at he
      have key : ∃ s1, evOps E h al s = some s1 ∧ e = .normal ∧ s' = s1.kp lv := by
        obtain ⟨s1, h1, h2⟩ := kpN_inv he
        cases hq : evOps E h al s with
        | none => rw [hq] at h1; cases h1
        | some s2 =>
          rw [hq] at h1
          cases h1
          rcases h2 with ⟨_, rfl⟩ | ⟨h, _⟩
          · exact ⟨_, rfl, rfl, rfl⟩
          · exact absurd rfl h
      obtain ⟨s1, h1, rfl, rfl⟩ := key
      exact evReg_ok hE hal hsr h1 fun a' w' L' k => ⟨rfl, L', k.kp lv⟩
  | seq x y ihx ihy =>
    intro hs ic hs' hc s a w L e s' hsr he
    simp only [cCode] at hc
    split at hc
    case h_2 => cases hc
    rename_i cx hs1 h1
    split at hc
    case h_2 => cases hc
    rename_i cy hs2 h2
    cases hc
    simp only [evCode, sk] at he
    split at he
    · rename_i s1 hx
      refine wp_seq (wp_mono (ihx hs cx hs1 h1 s a w L _ s1 hsr hx) fun e' a' w' ⟨k1, L', k2⟩ => ?_)
      subst k1
      exact ihy hs1 cy hs' h2 s1 a' w' L' e s' k2 he
    · rename_i hn
      refine wp_seq (wp_mono (ihx hs cx hs1 h1 s a w L _ s' hsr he) fun e' a' w' ⟨k1, k2⟩ => ?_)
      subst k1
      cases e with
      | normal => exact absurd he (fun hh => hn s' hh)
      | exit id => exact ⟨rfl, k2⟩
      | ret => exact ⟨rfl, k2⟩
  | cond c x y ihx ihy =>
    intro hs ic hs' hc s a w L e s' hsr he
    simp only [cCode] at hc
    split at hc
    case h_2 => cases hc
    rename_i lv hs0
    split at hc
    case h_2 => cases hc
    rename_i oc hoc
    split at hc
    case h_2 => cases hc
    rename_i cx hs1 h1
    split at hc
    case h_2 => cases hc
    rename_i cy hs2 h2
    cases hc
    simp only [evCode] at he
    split at he
    case h_2 => cases he
    rename_i b hb
    have hcv := (cOpd_ok hsr.tr hoc hb).inv_g.inv_bool
    refine wp_cond hcv ?_
    cases b with
    | true =>
      simp only [if_true] at he ⊢
      obtain ⟨s1, k1, _⟩ := kpN_inv he
      exact wp_mono (ihx hs0 cx hs1 h1 s a w L e s1 hsr k1) fun e' a' w' k => ends_kp he fun s2 hs2 => by rw [k1] at hs2; cases hs2; exact k
    | false =>
      simp only [Bool.false_eq_true, if_false] at he ⊢
      obtain ⟨s1, k1, _⟩ := kpN_inv he
      exact wp_mono (ihy hs1 cy hs' h2 s a w L e s1 hsr k1) fun e' a' w' k => ends_kp he fun s2 hs2 => by rw [k1] at hs2; cases hs2; exact k
  | block id x ihx =>
    intro hs ic hs' hc s a w L e s' hsr he
    simp only [cCode] at hc
    split at hc
    case h_2 => cases hc
    rename_i lv hs0
    split at hc
    case h_2 => cases hc
    rename_i cx hs1 h1
    cases hc
    simp only [evCode, bk] at he
    refine wp_block ?_
    split at he
    · rename_i i s1 hx
      refine wp_mono (ihx hs0 cx hs' h1 s a w L _ s1 hsr hx) fun e' a' w' ⟨k1, L', k2⟩ => ?_
      subst k1
      show if i = id then _ else _
      split at he
      · rename_i hi
        cases he
        rw [if_pos hi]
        exact ⟨rfl, L', k2.kp lv⟩
      · rename_i hi
        cases he
        rw [if_neg hi]
        exact ⟨rfl, L', k2⟩
    · rename_i s1 hx
      cases he
      refine wp_mono (ihx hs0 cx hs' h1 s a w L _ s1 hsr hx) fun e' a' w' ⟨k1, L', k2⟩ => ?_
      subst k1
      exact ⟨rfl, L', k2.kp lv⟩
    · rename_i hn1 hn2
      refine wp_mono (ihx hs0 cx hs' h1 s a w L _ s' hsr he) fun e' a' w' ⟨k1, L', k2⟩ => ?_
      subst k1
      cases e with
      | normal => exact absurd he (fun hh => hn2 s' hh)
      | exit id => exact absurd he (fun hh => hn1 _ s' hh)
      | ret => exact ⟨rfl, L', k2⟩
  | loop x ihx =>
    intro hs ic hs' hc s a w L e s' hsr he
    simp only [cCode] at hc
    split at hc
    case h_2 => cases hc
    rename_i lv hs0
    split at hc
    case h_2 => cases hc
    rename_i cx hs1 h1
    cases hc
    simp only [evCode, loopL] at he
    obtain ⟨n, hn⟩ := lim_some he
    refine wp_loop_rounds n ?_
    have key : ∀ (n : Nat) (s : St) (a : Act) (w : World) (L : Nat → Lc), SR w0 L0 h nt s a w L → loopF (fun s => evCode E h cx s) lv n s = some (e, s') → Code.rounds P x (Ends w0 L0 h nt e s') n a w := by
      intro n
      induction n with
      | zero => intro s a w L _ hh; cases hh
      | succ n ih =>
        intro s a w L hsr hh
        simp only [loopF, sk] at hh
        rw [rounds_succ]
        split at hh
        · rename_i s1 hx
          refine wp_mono (ihx hs0 cx hs' h1 s a w L _ s1 hsr hx) fun e' a' w' ⟨k1, L', k2⟩ => ?_
          subst k1
          exact ih (s1.kp lv) a' w' L' (k2.kp lv) hh
        · rename_i hnn
          refine wp_mono (ihx hs0 cx hs' h1 s a w L _ s' hsr hh) fun e' a' w' ⟨k1, L', k2⟩ => ?_
          subst k1
          cases e with
          | normal => exact absurd hh (fun h => hnn s' h)
          | exit id => exact ⟨rfl, L', k2⟩
          | ret => exact ⟨rfl, L', k2⟩
    exact key n (s.kp lv) a w L (hsr.kp lv) hn
  | _ =>
    intro hs ic hs' hc s a w L e s' hsr he
    simp only [cCode] at hc
    cases hc
    rw [dead_none] at he
    cases he

end
end Go.AM
end

section
set_option linter.unusedSimpArgs false
set_option linter.unusedVariables false
namespace Go.AM
open Go

theorem GR.shrink {E E' : Env} (hw : E'.w = E.w) (hO : ∀ b, E'.O b → E.O b) {v : GV} {cv : Value} (hv : GR E v cv) : GR E' v cv := by
  induction hv with
  | bool b => exact .bool b
  | int k n => exact .int k n
  | str s => exact .str s
  | sl c hcap hb hO' hsz hc hg ih =>
    refine .sl c hcap (by rw [hw]; exact hb) (fun h => hO' (hO _ h)) hsz (fun i el j a h1 h2 => ?_) ih
    rw [hw]; exact hc i el j a h1 h2
  | sl0 sz a cap => exact .sl0 sz a cap
  | nsl => exact .nsl
  | nptr => exact .nptr
  | nmap => exact .nmap
  | nfn => exact .nfn
  | nif => exact .nif
  | fn f => exact .fn f
  | ifc t _ ih => exact .ifc t ih

theorem AR.shrink0 {E E' : Env} (hw : E'.w = E.w) (hO : ∀ b, E'.O b → E.O b) (hL : E'.L = E.L) {v : AV} {cv : Value} (hv : AR E v cv) (hl : v.lt0 E'.n = true) : AR E' v cv := by
  cases hv with
  | g h => exact .g (h.shrink hw hO)
  | cp c hb hO' hc hg => exact .cp c (by rw [hw]; exact hb) (fun h => hO' (hO _ h)) (fun j a h => by rw [hw]; exact hc j a h) fun j a h => (hg j a h).shrink hw hO
  | ptr hid hgen hb => exact .ptr (by simpa [AV.lt0] using hl) (by rw [hL]; exact hgen) (by rw [hL]; exact hb)
  | ms hid h0 hle h1 hm hz => exact .ms (by simpa [AV.lt0] using hl) (by rw [hL]; exact h0) (by rw [hL]; exact hle) h1 (by rw [hL]; exact hm) (by rw [hL]; exact hz)
  | rp hid h0 hle h1 hm => exact .rp (by simpa [AV.lt0] using hl) (by rw [hL]; exact h0) (by rw [hL]; exact hle) h1 (by rw [hL]; exact hm)
  | via t p f q => exact .via t p f q
  | mp hid hgen hb => exact .mp (by simpa [AV.lt0] using hl) (by rw [hL]; exact hgen) (by rw [hL]; exact hb)
  | undef => exact .undef
  | agg _ _ _ => simp [AV.lt0] at hl
  | tup _ _ => simp [AV.lt0] at hl
  | fv _ _ => simp [AV.lt0] at hl
  | bv _ _ => simp [AV.lt0] at hl
  | ifa _ _ => simp [AV.lt0] at hl

theorem AR.shrink1 {E E' : Env} (hw : E'.w = E.w) (hO : ∀ b, E'.O b → E.O b) (hL : E'.L = E.L) {v : AV} {cv : Value} (hv : AR E v cv) (hl : v.lt1 E'.n = true) : AR E' v cv := by
  cases v with
  | fv f caps =>
    cases hv with
    | fv hn hc =>
      refine .fv hn fun j a u ha hu => (hc j a u ha hu).shrink0 hw hO hL ?_
      exact List.all_eq_true.1 hl a (List.mem_of_getElem? ha)
  | bv f caps =>
    cases hv with
    | bv hn hc =>
      refine .bv hn fun j a u ha hu => (hc j a u ha hu).shrink0 hw hO hL ?_
      exact List.all_eq_true.1 hl a (List.mem_of_getElem? ha)
  | ifa t v =>
    cases hv with
    | ifa _ h => exact .ifa t (h.shrink0 hw hO hL hl)
  | _ => exact hv.shrink0 hw hO hL hl

theorem HB.shrink {E E' : Env} (hw : E'.w = E.w) (hO : ∀ b, E'.O b → E.O b) (hL : E'.L = E.L) {id : Nat} {k : Blk} (hk : HB E id k) (hl : k.lt1 E'.n = true) : HB E' id k := by
  have vr : ∀ {g : Option GV} {c : Value}, VR E g c → VR E' g c := fun {g c} k => by
    cases g with
    | none => exact k
    | some g => exact GR.shrink hw hO k
  have rows : ∀ {C : Array Value} {sz cap : Nat} {els : List (List GV)}, RowsIn E C sz cap els → RowsIn E' C sz cap els := fun k =>
    ⟨k.1, k.2.1, fun i el hi => ⟨(k.2.2 i el hi).1, fun j a hj => let ⟨v, h1, h2⟩ := (k.2.2 i el hi).2 j a hj; ⟨v, h1, h2.shrink hw hO⟩⟩⟩
  cases k with
  | cells cs =>
    obtain ⟨h0, b, T, C, h1, h2, h3⟩ := hk
    refine ⟨by rw [hL]; exact h0, b, T, C, by rw [hL]; exact h1, by rw [hw]; exact h2, h3.1, fun j a hj => ?_⟩
    obtain ⟨v, k1, k2, k3⟩ := h3.2 j a hj
    exact ⟨v, k1, k2.shrink1 hw hO hL (List.all_eq_true.1 hl a (List.mem_of_getElem? hj)), k3⟩
  | rows sz g els =>
    obtain ⟨h0, h1, h2⟩ := hk
    refine ⟨by rw [hL]; exact h0, ⟨by rw [hL]; exact h1.1, h1.2⟩, ?_⟩
    rw [hL, hw]
    cases hq : (E.L id).blk with
    | none => rw [hq] at h2; exact h2
    | some b => rw [hq] at h2; obtain ⟨T, C, h3, h4⟩ := h2; exact ⟨T, C, h3, rows h4⟩
  | bld T cs =>
    obtain ⟨h0, b, C, h1, h2, h3⟩ := hk
    refine ⟨by rw [hL]; exact h0, b, C, by rw [hL]; exact h1, by rw [hw]; exact h2, h3.1, fun j a hj => ?_⟩
    obtain ⟨v, k1, k2, k3⟩ := h3.2 j a hj
    exact ⟨v, k1, k2.shrink1 hw hO hL (List.all_eq_true.1 hl a (List.mem_of_getElem? hj)), k3⟩
  | trow T sz g els =>
    obtain ⟨h0, h1, h2⟩ := hk
    refine ⟨by rw [hL]; exact h0, ⟨by rw [hL]; exact h1.1, h1.2⟩, ?_⟩
    rw [hL, hw]
    cases hq : (E.L id).blk with
    | none => rw [hq] at h2; exact h2
    | some b => rw [hq] at h2; obtain ⟨C, h3, h4⟩ := h2; exact ⟨C, h3, rows h4⟩
  | fro sz g els =>
    obtain ⟨h0, h1, h2⟩ := hk
    refine ⟨by rw [hL]; exact h0, h1, ?_⟩
    rw [hL, hw]
    cases hq : (E.L id).blk with
    | none => rw [hq] at h2; exact h2
    | some b => rw [hq] at h2; obtain ⟨h3, h4, T, C, fr, h5, h6⟩ := h2; exact ⟨h3, fun h => h4 (hO _ h), T, C, fr, h5, rows h6⟩
  | map es =>
    obtain ⟨h0, b, en, ck, h1, h2, h3⟩ := hk
    exact ⟨by rw [hL]; exact h0, b, en, ck, by rw [hL]; exact h1, by rw [hw]; exact h2, h3.1, fun j p e k1 k2 => ⟨(h3.2 j p e k1 k2).1.shrink hw hO, vr (h3.2 j p e k1 k2).2⟩⟩
  | pend => rw [HB, hL]; exact hk
  | hid => intro b hb; rw [hL] at hb; rw [hw]; exact hk b hb

section
variable {w : World} {A o : List Blk} {L : Nat → Lc}

theorem own_left {b : Nat} (hb : Own A L b) : Own (A ++ o) L b := by
  obtain ⟨id, k, h1, h2, h3⟩ := hb
  exact ⟨id, k, by rw [List.getElem?_append_left (List.getElem?_eq_some_iff.1 h1).1]; exact h1, h2, h3⟩

theorem live_left {i : Nat} (hi : Live A i) : Live (A ++ o) i := by
  obtain ⟨k, h1, h2⟩ := hi
  exact ⟨k, by rw [List.getElem?_append_left (List.getElem?_eq_some_iff.1 h1).1]; exact h1, h2⟩

/-- The last blocks are let go. -/
theorem HR.drop (hr : HR w (A ++ o) L) (hl : ∀ (i : Nat) (k : Blk), A[i]? = some k → k.lt1 A.length = true ∨ HB (envOf w A L) i k) : HR w A L := by
  have hget : ∀ (i : Nat) (k : Blk), A[i]? = some k → (A ++ o)[i]? = some k := fun i k hk => by
    rw [List.getElem?_append_left (List.getElem?_eq_some_iff.1 hk).1]; exact hk
  refine ⟨fun id k hk => ?_, fun i j b x y hx hy lx ly hi hj => hr.inj i j b x y (hget i x hx) (hget j y hy) lx ly hi hj⟩
  rcases hl id k hk with hl | hl
  · exact HB.shrink (E := envOf w (A ++ o) L) (E' := envOf w A L) rfl (fun b => own_left) rfl (hr.blk id k (hget id k hk)) hl
  · exact hl

theorem ext_drop {E0 : Env} (he : Ext E0 (envOf w (A ++ o) L)) (hn : E0.n ≤ A.length) : Ext E0 (envOf w A L) where
  os := he.os
  tape := he.tape
  output := he.output
  size := he.size
  keep b hb hO := ⟨(he.keep b hb hO).1, fun h => (he.keep b hb hO).2 (own_left h)⟩
  le := hn
  loc := he.loc
  lv id hid hv := he.lv id hid (live_left hv)
end

section
variable {w w0 : World} {L L0 : Nat → Lc} {h : List Blk} {nt : Nat} {s : St} {a : Act}

theorem frz0_ok (hr : HR w (full h s) L) {v v' : AV} {cv : Value} (he : frz0 h s v = some v') (hv : AR (envOf w (full h s) L) v cv) : AR (envOf w (applyM h s.m) L) v' cv := by
  have hO : ∀ b, (envOf w (applyM h s.m) L).O b → (envOf w (full h s) L).O b := fun b => own_left
  have hn : (envOf w (applyM h s.m) L).n = h.length := applyM_length ..
  have plain : ∀ v : AV, AR (envOf w (full h s) L) v cv → v.lt1 h.length = true → AR (envOf w (applyM h s.m) L) v cv := fun v hv hl =>
    AR.shrink1 (E := envOf w (full h s) L) (E' := envOf w (applyM h s.m) L) rfl hO rfl hv (by rw [hn]; exact hl)
  unfold frz0 at he
  split at he
  · rename_i id g sz off len
    split at he
    · rename_i hid
      cases he
      exact plain _ hv (by simpa [AV.lt1, AV.lt0] using hid)
    · rename_i hid
      split at he
      case h_2 => cases he
      rename_i els hview
      cases he
      simp only [viewN, if_true] at hview
      cases hv with
      | ms hid' hg0 hle h1 hm hz =>
      have main : ∀ (els0 : List (List GV)), g = ((envOf w (full h s) L).L id).gen → off + len ≤ els0.length → els = (els0.drop off).take len →
          (match (L id).blk with
            | none => els0 = [] ∧ (L id).cap = 0
            | some b => b < w.heap.size ∧ ¬ (envOf w (applyM h s.m) L).O b ∧ ∃ T C fr, w.heap[b]? = some (.cells C T fr) ∧ RowsIn (envOf w (full h s) L) C sz (L id).cap els0) → AR (envOf w (applyM h s.m) L) (.g (if g = 1 then .nsl else .sl sz els)) cv := by
        intro els0 hg hlen hels hb
        have hm := hm hg
        have hz := hz hg
        unfold MsOk at hm
        have hL : (envOf w (full h s) L).L id = L id := rfl
        rw [hL] at hm hz
        cases hq : (L id).blk with
        | none =>
          rw [hq] at hm hb
          obtain ⟨rfl, rfl, rfl⟩ := hm
          obtain ⟨rfl, _⟩ := hb
          rw [if_pos (hz.2 hq)]
          exact .g .nsl
        | some b =>
          rw [hq] at hm hb
          rw [if_neg (fun e => by rw [hz.1 e] at hq; cases hq)]
          obtain ⟨A, c, rfl, hc, hlc, hA⟩ := hm
          obtain ⟨hbs, hbO, T, C, fr, hheap, hrow⟩ := hb
          have hl : els.length = len := by subst hels; simp; omega
          by_cases hc0 : len = 0
          · subst hc0
            have : els = [] := List.eq_nil_of_length_eq_zero hl
            rw [this]
            exact .g (.sl0 sz _ _)
          · have hA' : A = ⟨b, off * sz, none⟩ := by
              rcases hA with h | h
              · exact h
              · omega
            subst hA'
            rw [← hl]
            have hget : ∀ (i : Nat) (el : List GV), els[i]? = some el → els0[off + i]? = some el := by
              intro i el hi
              subst hels
              rw [List.getElem?_take] at hi
              split at hi
              · rw [List.getElem?_drop] at hi; exact hi
              · cases hi
            refine .g (.sl (fun i j => (C[(off + i) * sz + j]?).getD Go.undef) (by omega) hbs hbO (fun i el hi => (hrow.2.2 _ el (hget i el hi)).1) (fun i el j x hi hj => ?_) (fun i el j x hi hj => ?_))
            · obtain ⟨v, k1, k2⟩ := (hrow.2.2 _ el (hget i el hi)).2 j x hj
              rw [show off * sz + i * sz + j = (off + i) * sz + j from by rw [Nat.add_mul]]
              show w.cell? _ = _
              simp [World.cell?, hheap, k1]
            · obtain ⟨v, k1, k2⟩ := (hrow.2.2 _ el (hget i el hi)).2 j x hj
              rw [k1]
              exact GR.shrink (E := envOf w (full h s) L) (E' := envOf w (applyM h s.m) L) rfl hO k2
      split at hview
      · rename_i sz2 g' els0 hB
        split at hview
        case isFalse => cases hview
        rename_i hcond
        cases hview
        obtain ⟨rfl, rfl, hlen⟩ := hcond
        have hfull : (full h s)[id]? = some (.rows sz2 g els0) := by rw [getB_full]; exact hB
        obtain ⟨k0, k1, k2⟩ := hr.blk id _ hfull
        refine main els0 k0.symm hlen rfl ?_
        change (match (L id).blk with | none => _ | some b => _) at k2
        cases hq : (L id).blk with
        | none => rw [hq] at k2; exact k2
        | some b =>
          rw [hq] at k2
          obtain ⟨T, C, k3, k4⟩ := k2
          refine ⟨(Array.getElem?_eq_some_iff.1 k3).1, ?_, T, C, (0, 0), k3, k4⟩
          rintro ⟨id', k, j1, j2, j3⟩
          have j1' : (full h s)[id']? = some k := by
            unfold full
            rw [List.getElem?_append_left (List.getElem?_eq_some_iff.1 j1).1]; exact j1
          have := hr.inj id' id b k _ j1' hfull j2 rfl j3 hq
          subst this
          have := (List.getElem?_eq_some_iff.1 j1).1
          rw [applyM_length] at this
          exact hid this
      · rename_i sz2 g' els0 hB
        split at hview
        case isFalse => cases hview
        rename_i hcond
        cases hview
        obtain ⟨rfl, rfl, hlen⟩ := hcond
        have hfull : (full h s)[id]? = some (.fro sz2 g els0) := by rw [getB_full]; exact hB
        obtain ⟨k0, k1, k2⟩ := hr.blk id _ hfull
        refine main els0 k0.symm hlen rfl ?_
        change (match (L id).blk with | none => _ | some b => _) at k2
        cases hq : (L id).blk with
        | none => rw [hq] at k2; exact k2
        | some b =>
          rw [hq] at k2
          obtain ⟨k3, k4, T, C, fr, k5, k6⟩ := k2
          exact ⟨k3, fun hh => k4 (hO _ hh), T, C, fr, k5, k6⟩
      · cases hview
  · split at he
    · rename_i hl
      cases he
      exact plain _ hv hl
    · cases he

theorem frz1_ok : ∀ (vs vs' : List AV), frz1 h s vs = some vs' → vs'.length = vs.length ∧ ∀ (j : Nat) (x : AV), vs'[j]? = some x → ∃ y, vs[j]? = some y ∧ frz0 h s y = some x
  | [], vs', he => by cases he; exact ⟨rfl, fun j x hx => by simp at hx⟩
  | v :: r, vs', he => by
    simp only [frz1] at he
    split at he
    case h_2 => cases he
    rename_i v1 r1 h1 h2
    cases he
    obtain ⟨k1, k2⟩ := frz1_ok r r1 h2
    refine ⟨by simp [k1], fun j x hx => ?_⟩
    cases j with
    | zero => simp at hx; subst hx; exact ⟨v, rfl, h1⟩
    | succ j => simp at hx; obtain ⟨y, hy, hz⟩ := k2 j x hx; exact ⟨y, by simpa using hy, hz⟩

theorem frz2_ok (hr : HR w (full h s) L) {v v' : AV} {cv : Value} (he : frz2 h s v = some v') (hv : AR (envOf w (full h s) L) v cv) : AR (envOf w (applyM h s.m) L) v' cv := by
  unfold frz2 at he
  split at he
  · rename_i cs
    split at he
    case h_2 => cases he
    rename_i cs' hc
    cases he
    obtain ⟨k1, k2⟩ := frz1_ok cs cs' hc
    cases hv with
    | agg hn hx h1 =>
      refine .agg (by omega) (fun j x v hj hv' => ?_) h1
      obtain ⟨y, hy, hz⟩ := k2 j x hj
      exact frz0_ok hr hz (hx j y v hy hv')
  · exact frz0_ok hr he hv

theorem frz3_ok : ∀ (vs vs' : List AV), frz3 h s vs = some vs' → vs'.length = vs.length ∧ ∀ (j : Nat) (x : AV), vs'[j]? = some x → ∃ y, vs[j]? = some y ∧ frz2 h s y = some x
  | [], vs', he => by cases he; exact ⟨rfl, fun j x hx => by simp at hx⟩
  | v :: r, vs', he => by
    simp only [frz3] at he
    split at he
    case h_2 => cases he
    rename_i v1 r1 h1 h2
    cases he
    obtain ⟨k1, k2⟩ := frz3_ok r r1 h2
    refine ⟨by simp [k1], fun j x hx => ?_⟩
    cases j with
    | zero => simp at hx; subst hx; exact ⟨v, rfl, h1⟩
    | succ j => simp at hx; obtain ⟨y, hy, hz⟩ := k2 j x hx; exact ⟨y, by simpa using hy, hz⟩
end
end Go.AM
end

section
set_option linter.unusedSimpArgs false
set_option linter.unusedVariables false
namespace Go.AM
open Go

def cRV (P : Program) : ResultVar → Option RV
  | .tmp t => some (.tmp t)
  | .cell a t => match aggT P t, szT P t with
    | some g, some n => if g = true ∨ n = 1 then some (.cell a g n) else none
    | _, _ => none

def cRVs (P : Program) : List ResultVar → Option (List RV)
  | [] => some []
  | x :: xs => match cRV P x, cRVs P xs with
    | some y, some ys => some (y :: ys)
    | _, _ => none

def cFunc (P : Program) (f : FuncId) (esc : Bool) (hints : List (List Nat)) : Option IFunc :=
  match P.funcs[f]? with
  | some fn => match fn.body with
    | some c => if (fn.name == "runtime.NumGoroutine") = false then
        match cCode P fn.ntmps c hints, cRVs P fn.results.toList with
        | some (ic, []), some rs => some ⟨fn.params.size + fn.nfree, fn.ntmps, rs, esc, ic⟩
        | _, _ => none
      else none
    | none => none
  | none => none

section
variable {P : Program} {w w0 : World} {L L0 : Nat → Lc} {h : List Blk} {nt : Nat} {s : St} {a : Act}

def rvSem (tmps : Array Value) : ResultVar → Sem Value
  | .tmp t => pure (tmps.getD t undef)
  | .cell a t => do loadVar t (← asAddr (tmps.getD a undef))

theorem run_mapM_list (f : ResultVar → Sem Value) (P : Program) (w : World) : ∀ (l : List ResultVar) (vs : List Value), l.length = vs.length → (∀ (j : Nat) (x : ResultVar) (v : Value), l[j]? = some x → vs[j]? = some v → (f x).run P w = .ok v w) →
    (l.mapM f).run P w = .ok vs w
  | [], vs, hl, hh => by
    have : vs = [] := by cases vs <;> simp at hl; rfl
    subst this; simp
  | x :: l, vs, hl, hh => by
    cases vs with
    | nil => simp at hl
    | cons v vs =>
      have h1 := hh 0 x v rfl rfl
      have h2 := run_mapM_list f P w l vs (by simpa using hl) (fun j y u hy hu => hh (j + 1) y u (by simpa using hy) (by simpa using hu))
      simp [List.mapM_cons, h1, h2]

theorem run_results {fn : Func} {tmps : Array Value} {P : Program} {w : World} {vs : List Value} (hl : fn.results.toList.length = vs.length)
    (hh : ∀ (j : Nat) (x : ResultVar) (v : Value), fn.results.toList[j]? = some x → vs[j]? = some v → (rvSem tmps x).run P w = .ok v w) :
    (results fn tmps).run P w = .ok (if hs : vs.toArray.size = 1 then vs.toArray[0] else .tuple vs.toArray) w := by
  have h1 := run_mapM_list (rvSem tmps) P w fn.results.toList vs hl hh
  have h2 : (fn.results.mapM (rvSem tmps)).run P w = .ok vs.toArray w := by
    rw [Array.mapM_eq_mapM_toList]
    simp [h1]
  unfold results
  have e : (fun x => match x with
    | ResultVar.tmp t => pure (tmps.getD t undef)
    | ResultVar.cell a t => do loadVar t (← asAddr (tmps.getD a undef)) : ResultVar → Sem Value) = rvSem tmps := by
      funext x; cases x <;> rfl
  rw [Sem.run_bind]
  refine Eq.trans (congrArg (fun q => Result.andThen (Sem.run P q w) _) (congrArg (fun f => Array.mapM f fn.results) e)) ?_
  rw [h2]
  rfl

theorem rv_ok (hs : SR w0 L0 h nt s a w L) {x : ResultVar} {y : RV} {v : AV} (hc : cRV P x = some y) (he : rvV h s y = some v) :
    ∃ cv, AR (envOf w (full h s) L) v cv ∧ (rvSem a.tmps x).run P w = .ok cv w := by
  cases x with
  | tmp t =>
    cases hc
    exact ⟨_, hs.tr t v he, by simp [rvSem]⟩
  | cell t ty =>
    simp only [cRV] at hc
    split at hc
    case h_2 => cases hc
    rename_i g n hg hn
    split at hc
    case isFalse => cases hc
    rename_i hgn
    cases hc
    simp only [rvV] at he
    split at he
    case h_2 => cases he
    rename_i v' rs hv
    cases he
    obtain ⟨cv, h1, h2⟩ := y_load (P := P) hs.hr hs.tr (dst := none) (ty := ty) (pos := "") (after := #[]) (gd := none) (p := .tmp t) hg hn hgn rfl hv
    refine ⟨cv, h1, ?_⟩
    have h3 := h2 w (fun _ => .self _ _)
    simp only [execOp, Instr.loadAt, Sem.run_bind] at h3
    simp only [rvSem, Sem.run_bind]
    have e : a.eval (.tmp t) = a.tmps.getD t undef := rfl
    rw [e] at h3
    cases hq : a.tmps.getD t undef with
    | pointer A =>
      cases A with
      | none => rw [hq] at h3; simp [Instr.sureAddr] at h3
      | some A =>
        rw [hq] at h3
        simp [Instr.sureAddr] at h3
        simp [asAddr]
        generalize (loadVar ty A).run P w = r at h3 ⊢
        cases r <;> simp at h3 ⊢
        exact h3
    | _ => rw [hq] at h3; simp [Instr.sureAddr] at h3

theorem rvs_ok (hs : SR w0 L0 h nt s a w L) : ∀ (l : List ResultVar) (rs : List RV) (vs : List AV), cRVs P l = some rs → rvVs h s rs = some vs →
    ∃ cs : List Value, l.length = cs.length ∧ vs.length = cs.length ∧ (∀ (j : Nat) (x : ResultVar) (v : Value), l[j]? = some x → cs[j]? = some v → (rvSem a.tmps x).run P w = .ok v w) ∧
      ∀ (j : Nat) (x : AV) (v : Value), vs[j]? = some x → cs[j]? = some v → AR (envOf w (full h s) L) x v
  | [], rs, vs, hc, he => by
    cases hc
    simp only [rvVs] at he
    cases he
    exact ⟨[], rfl, rfl, fun j x v hx => by simp at hx, fun j x v hx => by simp at hx⟩
  | x :: l, rs, vs, hc, he => by
    simp only [cRVs] at hc
    split at hc
    case h_2 => cases hc
    rename_i y ys hy hys
    cases hc
    simp only [rvVs] at he
    split at he
    case h_2 => cases he
    rename_i v vs' hv hvs
    cases he
    obtain ⟨cv, h1, h2⟩ := rv_ok hs hy hv
    obtain ⟨cs, k1, k2, k3, k4⟩ := rvs_ok hs l ys vs' hys hvs
    refine ⟨cv :: cs, by simp [k1], by simp [k2], fun j x v hx hv => ?_, fun j x v hx hv => ?_⟩
    · cases j with
      | zero => simp at hx hv; subst hx hv; exact h2
      | succ j => exact k3 j x v (by simpa using hx) (by simpa using hv)
    · cases j with
      | zero => simp at hx hv; subst hx hv; exact h1
      | succ j => exact k4 j x v (by simpa using hx) (by simpa using hv)

theorem tupV_ok {E : Env} {vs : List AV} {cs : List Value} (hl : vs.length = cs.length) (hh : ∀ (j : Nat) (x : AV) (v : Value), vs[j]? = some x → cs[j]? = some v → AR E x v) :
    AR E (tupV vs) (if hs : cs.toArray.size = 1 then cs.toArray[0] else .tuple cs.toArray) := by
  match vs, cs, hl with
  | [], [], _ => exact .tup rfl (fun j x v hx => by simp at hx)
  | [x], [v], _ => exact hh 0 x v rfl rfl
  | x :: y :: vs, v :: u :: cs, hl =>
    have : ¬ (v :: u :: cs).toArray.size = 1 := by simp
    rw [dif_neg this]
    exact .tup (by simpa using hl) (fun j p q hp hq => hh j p q hp (by simpa using hq))

theorem applyM_mem {H : List Blk} {i : Nat} {k : Blk} : ∀ (m : List (Nat × Blk)), True → i ∈ keysM m → (applyM H m)[i]? = some k → ∃ p ∈ m, p.2 = k
  | [], _, hi, _ => by cases hi
  | (a, v) :: t, _, hi, hk => by
    simp only [applyM] at hk
    by_cases e : a = i
    · subst e
      have hlt : a < (applyM H t).length := by have := (List.getElem?_eq_some_iff.1 hk).1; simpa using this
      rw [List.getElem?_set_self hlt] at hk
      exact ⟨(a, v), by simp, Option.some.inj hk⟩
    · rw [List.getElem?_set_ne e] at hk
      simp only [keysM, List.map_cons, List.mem_cons] at hi
      obtain ⟨p, h1, h2⟩ := applyM_mem t trivial (hi.resolve_left (fun h => e h.symm)) hk
      exact ⟨p, by simp [h1], h2⟩

theorem initT_look : ∀ (k : Nat) (args : List AV) (i : Nat) (v : AV), look (initT k args) i = some v → ∃ j, i = k + j ∧ args[j]? = some v
  | _, [], _, _, h => by cases h
  | k, x :: r, i, v, h => by
    simp only [initT, look] at h
    split at h
    · rename_i e; cases h; exact ⟨0, by omega, rfl⟩
    · obtain ⟨j, h1, h2⟩ := initT_look (k + 1) r i v h
      exact ⟨j + 1, by omega, by simpa using h2⟩

/-- What a function answers, it does. -/
theorem evBody_ok {E : FnS} (hE : FnOk P E) (hm : P.follows .mixedOrders = true) {f : FuncId} {esc : Bool} {hints : List (List Nat)} {F : IFunc} (hF : cFunc P f esc hints = some F)
    {args : List AV} {H : List Blk} {r : Res} (he : evBody E F args H = some r) : SndF P f args H r := by
  unfold cFunc at hF
  split at hF
  case h_2 => cases hF
  rename_i fn hfn
  split at hF
  case h_2 => cases hF
  rename_i c hbody
  split at hF
  case isFalse => cases hF
  rename_i hname
  split at hF
  case h_2 => cases hF
  rename_i ic rs hic hrs
  cases hF
  intro w L xs hr ha
  refine .inl ⟨?_, ?_⟩
  · simp [callFunc, hfn, hname, hbody]
    simpa using hname
  refine calls_of_wp hfn hbody ?_
  unfold evBody at he
  simp only at he
  split at he
  case isFalse => cases he
  rename_i hlen
  have hfull : full H ⟨initT 0 args, [], []⟩ = H := by simp [full, applyM]
  have hs0 : SR w L H fn.ntmps ⟨initT 0 args, [], []⟩ { tmps := xs ++ Array.replicate (fn.ntmps - xs.size) undef, defers := [] } w L := by
    refine ⟨by rw [hfull]; exact hr, ?_, rfl, ?_, by rw [hfull]; exact .refl _, fun _ _ _ => ⟨rfl, fun _ _ _ => rfl⟩⟩
    · rw [hfull]
      intro i v hv
      obtain ⟨j, h1, h2⟩ := initT_look 0 args i v hv
      have : i = j := by omega
      subst this
      have hlt : i < xs.size := by rw [← ha.1]; exact (List.getElem?_eq_some_iff.1 h2).1
      refine ha.2 i v _ h2 ?_
      simp [Array.getD_eq_getD_getElem?, Array.getElem?_append_left hlt, hlt]
    · have := ha.1
      simp; omega
  have go : ∀ (e : Ex) (s : St), evCode E H ic ⟨initT 0 args, [], []⟩ = some (e, s) → (e = .ret ∨ e = .normal) → finish H ⟨fn.params.size + fn.nfree, fn.ntmps, rs, esc, ic⟩ s = some r →
      c.wp P (bodyPost P fn fun e w' => ∃ v, e = .returned v ∧ ∃ L', AR (envOf w' (applyM H r.m ++ r.o) L') r.r v ∧ HR w' (applyM H r.m ++ r.o) L' ∧ Ext (envOf w H L) (envOf w' (applyM H r.m ++ r.o) L') ∧ Same w w' H L L' (keysM r.m)) { tmps := xs ++ Array.replicate (fn.ntmps - xs.size) undef, defers := [] } w := by
    intro e s hev hex hfin
    refine wp_mono (evCode_ok hE hm c hints ic [] hic _ _ w L e s hs0 hev) fun e' a' w' ⟨k1, L', k2⟩ => ?_
    have post : a'.defers = [] ∧ ∃ v, (results fn a'.tmps).run P w' = .ok v w' ∧ ∃ v', Ending.returned v = .returned v' ∧ ∃ L', AR (envOf w' (applyM H r.m ++ r.o) L') r.r v' ∧ HR w' (applyM H r.m ++ r.o) L' ∧ Ext (envOf w H L) (envOf w' (applyM H r.m ++ r.o) L') ∧ Same w w' H L L' (keysM r.m) := by
      refine ⟨k2.df, ?_⟩
      unfold finish at hfin
      split at hfin
      case h_2 => cases hfin
      rename_i vs hvs
      obtain ⟨cs, j1, j2, j3, j4⟩ := rvs_ok k2 _ _ _ hrs hvs
      refine ⟨_, run_results j1 j3, _, rfl, L', ?_⟩
      simp only at hfin
      split at hfin
      · cases hfin
        exact ⟨tupV_ok j2 j4, k2.hr, k2.ext, k2.same⟩
      · split at hfin
        case h_2 => cases hfin
        rename_i vs' hvs'
        split at hfin
        case isFalse => cases hfin
        rename_i hall
        cases hfin
        simp only [List.append_nil]
        obtain ⟨i1, i2⟩ := frz3_ok vs vs' hvs'
        refine ⟨tupV_ok (by omega) (fun j x v hx hv => ?_), ?_, ?_, k2.same⟩
        · obtain ⟨y, hy, hz⟩ := i2 j x hx
          exact frz2_ok k2.hr hz (j4 j y v hy hv)
        · refine HR.drop (o := s.o) k2.hr (fun i k hk => ?_)
          by_cases hi : i ∈ keysM s.m
          · obtain ⟨p, hp, rfl⟩ := applyM_mem _ trivial hi hk
            exact .inl (by rw [applyM_length]; exact List.all_eq_true.1 hall p hp)
          · have hk' : H[i]? = some k := by rw [← applyM_get_ne _ _ _ hi]; exact hk
            obtain ⟨q1, q2⟩ := k2.same i (List.getElem?_eq_some_iff.1 hk').1 hi
            exact .inr ((hr.blk i k hk').mono (ext_drop k2.ext (by rw [applyM_length]; exact Nat.le_refl _)) q1 (fun hl b hb => q2 ⟨k, hk', hl⟩ b hb))
        · exact ext_drop k2.ext (by rw [applyM_length]; exact Nat.le_refl _)
    subst k1
    rcases hex with rfl | rfl
    · exact post
    · exact post
  split at he
  · rename_i s hev; exact go _ s hev (.inl rfl) he
  · rename_i s hev; exact go _ s hev (.inr rfl) he
  · cases he

end
end Go.AM
end

section
set_option linter.unusedSimpArgs false
set_option linter.unusedVariables false
namespace Go.AM
open Go

theorem lim_eq {α : Type} {f : Nat → Option α} (hm : ∀ n m r, n ≤ m → f n = some r → f m = some r) {n : Nat} {r : α} (h : f n = some r) : lim f = some r := by
  unfold lim
  have hx : ∃ n r, f n = some r := ⟨n, r, h⟩
  rw [dif_pos hx]
  obtain ⟨r', hr'⟩ := hx.choose_spec
  rw [hr']
  rcases Nat.le_total n hx.choose with hle | hle
  · rw [← hr']; exact hm _ _ _ hle h
  · have := hm _ _ _ hle hr'; rw [h] at this; exact this.symm

theorem loopF_mono (step : St → Out) (lv : List Nat) : ∀ (n m : Nat) (s : St) (r : Ex × St), n ≤ m → loopF step lv n s = some r → loopF step lv m s = some r
  | 0, _, _, _, _, h => by cases h
  | n + 1, 0, _, _, hle, _ => by omega
  | n + 1, m + 1, s, r, hle, h => by
    simp only [loopF, sk] at h ⊢
    split at h
    · exact loopF_mono step lv n m _ r (by omega) h
    · exact h

theorem loopL_of {step : St → Out} {lv : List Nat} {n : Nat} {s : St} {r : Ex × St} (h : loopF step lv n s = some r) : loopL step lv s = some r :=
  lim_eq (fun n m r hle => loopF_mono step lv n m s r hle) h

theorem sk_inv {x : Out} {k : St → Out} {r : Ex × St} (h : sk x k = some r) : (∃ s, x = some (.normal, s) ∧ k s = some r) ∨ (x = some r ∧ r.1 ≠ .normal) := by
  unfold sk at h
  split at h
  · exact .inl ⟨_, rfl, h⟩
  · rename_i hn
    subst h
    obtain ⟨e, s⟩ := r
    exact .inr ⟨rfl, fun e' => hn s (by rw [← e'])⟩

theorem sk_of {x : Out} {k : St → Out} {r : Ex × St} (h : x = some r) (hn : r.1 ≠ .normal) : sk x k = some r := by
  subst h
  obtain ⟨e, s⟩ := r
  cases e <;> first | exact absurd rfl hn | rfl

/-- A loop is its first round, and the loop. -/
theorem loopL_eq (step : St → Out) (lv : List Nat) (s : St) : loopL step lv s = sk (step s) fun s' => loopL step lv (s'.kp lv) := by
  apply Option.ext
  intro r
  constructor
  · intro h
    obtain ⟨n, hn⟩ := lim_some h
    cases n with
    | zero => cases hn
    | succ n =>
      simp only [loopF] at hn
      rcases sk_inv hn with ⟨s1, h1, h2⟩ | ⟨h1, h2⟩
      · rw [h1]; exact loopL_of h2
      · exact sk_of h1 h2
  · intro h
    rcases sk_inv h with ⟨s1, h1, h2⟩ | ⟨h1, h2⟩
    · obtain ⟨n, hn⟩ := lim_some h2
      exact loopL_of (n := n + 1) (by simp only [loopF, sk, h1]; exact hn)
    · exact loopL_of (n := 1) (by simp only [loopF]; exact sk_of h1 h2)

/-! ### An answer hangs on few answers -/
abbrev Qs := List ((FuncId × List AV × List Blk) × Res)

def QS (E : FnS) (l : Qs) : Prop := ∀ q, q ∈ l → E q.1.1 q.1.2.1 q.1.2.2 = some q.2

theorem QS.left {E : FnS} {l l' : Qs} (h : QS E (l ++ l')) : QS E l := fun q hq => h q (List.mem_append.2 (.inl hq))
theorem QS.right {E : FnS} {l l' : Qs} (h : QS E (l ++ l')) : QS E l' := fun q hq => h q (List.mem_append.2 (.inr hq))
theorem QS.app {E : FnS} {l l' : Qs} (h : QS E l) (h' : QS E l') : QS E (l ++ l') := fun q hq => (List.mem_append.1 hq).elim (h q) (h' q)
theorem QS.nil (E : FnS) : QS E [] := fun _ h => by cases h

/-- What it says holds where as much is answered. -/
def Hangs {α : Type} (E : FnS) (g : FnS → Option α) (r : α) : Prop := ∃ l, QS E l ∧ ∀ E', QS E' l → g E' = some r

theorem Hangs.const {α : Type} {E : FnS} {g : FnS → Option α} {r : α} (h : ∀ E', g E' = some r) : Hangs E g r := ⟨[], QS.nil _, fun E' _ => h E'⟩
theorem Hangs.congr {α β : Type} {E : FnS} {g : FnS → Option α} {g' : FnS → Option β} {x : α} {r : β} (h : Hangs E g x) (hk : ∀ E', g E' = some x → g' E' = some r) : Hangs E g' r :=
  let ⟨l, h1, h2⟩ := h; ⟨l, h1, fun E' h' => hk E' (h2 E' h')⟩
theorem Hangs.bind {α β γ : Type} {E : FnS} {g : FnS → Option α} {g2 : FnS → Option β} {g' : FnS → Option γ} {x : α} {y : β} {r : γ} (h : Hangs E g x) (h2 : Hangs E g2 y)
    (hk : ∀ E', g E' = some x → g2 E' = some y → g' E' = some r) : Hangs E g' r :=
  let ⟨l, h1, h1'⟩ := h; let ⟨l', h3, h3'⟩ := h2; ⟨l ++ l', h1.app h3, fun E' h' => hk E' (h1' E' h'.left) (h3' E' h'.right)⟩

section
variable {E : FnS} {h : List Blk} {nb : Nat} {hd lv : List Nat} {s : St}

theorem evCall_hangs {f : AV} {xs : List AV} {r} (he : evCall E h hd s f xs = some r) : Hangs E (fun E => evCall E h hd s f xs) r := by
  unfold evCall at he
  split at he
  case isFalse => cases he
  rename_i hl
  have key : ∀ (g : FuncId) (ys : List AV), fin h hd s (E g ys (hideB hd (full h s))) = some r → (∀ E' : FnS, evCall E' h hd s f xs = fin h hd s (E' g ys (hideB hd (full h s)))) →
      Hangs E (fun E => evCall E h hd s f xs) r := by
    intro g ys hf hE'
    cases hq : E g ys (hideB hd (full h s)) with
    | none => rw [hq] at hf; cases hf
    | some q =>
      rw [hq] at hf
      refine ⟨[((g, ys, hideB hd (full h s)), q)], fun p hp => by simp at hp; subst hp; exact hq, fun E' h' => ?_⟩
      have := h' _ (List.mem_singleton.2 rfl)
      simp only [hE']
      simp only at this
      rw [this]
      exact hf
  split at he
  · exact key _ _ he fun E' => by simp only [evCall, if_pos hl]
  · exact key _ _ he fun E' => by simp only [evCall, if_pos hl]
  · exact key _ _ he fun E' => by simp only [evCall, if_pos hl]
  · cases he

theorem exOp_hangs {op : AOp} {r} (he : exOp E h nb hd s op = some r) : Hangs E (fun E => exOp E h nb hd s op) r := by
  by_cases hc : ∃ f xs, op = .call f xs
  · obtain ⟨f, xs, rfl⟩ := hc
    simp only [exOp] at he
    split at he
    · rename_i fv vs hf hv
      refine (evCall_hangs he).congr fun E' h' => ?_
      simp only [exOp, hf, hv]; exact h'
    · cases he
  · refine Hangs.const fun E' => ?_
    rw [exOp_other (fun f xs e => hc ⟨f, xs, e⟩)] at he ⊢
    exact he

theorem gdo_hangs {α : Type} {g : Option (Nat × Bool)} {yes : FnS → St → Option α} {no : St → Option α} {r : α} (hy : ∀ s, yes E s = some r → Hangs E (fun E => yes E s) r) (he : gdo s g (yes E) no = some r) :
    Hangs E (fun E => gdo s g (yes E) no) r := by
  unfold gdo at he
  split at he
  · exact (hy _ he).congr fun E' k => k
  · rename_i g b
    split at he
    · rename_i x hx
      split at he
      · rename_i hxb
        refine (hy _ he).congr fun E' k => ?_
        simp only [gdo, hx, if_pos hxb]; exact k
      · rename_i hxb
        refine Hangs.const fun E' => ?_
        simp only [gdo, hx, if_neg hxb]; exact he
    · rename_i hx
      refine Hangs.const fun E' => ?_
      simp only [gdo, hx]; exact he
    · cases he

theorem evOne_hangs {o : AOper} {r} (he : evOne E h nb hd s o = some r) : Hangs E (fun E => evOne E h nb hd s o) r := by
  unfold evOne at he ⊢
  refine gdo_hangs (yes := fun E s => ob (exOp E h nb hd s o.op) fun p => some (p.2.1.put o.d p.1, p.2.2)) (fun s hs => ?_) he
  obtain ⟨p, hp, hs⟩ := ob_some hs
  refine (exOp_hangs hp).congr fun E' k => ?_
  simp only [k, ob]; exact hs

theorem evOps_hangs : ∀ (l : List AOper) (s : St) (r : St), evOps E h l s = some r → Hangs E (fun E => evOps E h l s) r
  | [], s, r, he => Hangs.const fun E' => he
  | o :: l, s, r, he => by
    simp only [evOps] at he
    obtain ⟨p, h1, he⟩ := ob_some he
    refine (evOne_hangs h1).bind (evOps_hangs l p.1 r he) fun E' k1 k2 => ?_
    simp only [evOps, k1, ob]
    exact k2

theorem evTree_hangs : ∀ (hd : List Nat) (t : Tree) (s : St) (r : St), evTree E h nb lv hd t s = some r → Hangs E (fun E => evTree E h nb lv hd t s) r
  | hd, .free t, s, r, he => by
    simp only [evTree] at he
    refine (evTree_hangs [] t s r he).congr fun E' k => ?_
    simp only [evTree]
    exact k
  | hd, .hold ts t, s, r, he => by
    simp only [evTree] at he
    refine (evTree_hangs hd t s r he).congr fun E' k => ?_
    simp only [evTree]
    exact k
  | hd, .leaf, s, r, he => Hangs.const fun E' => by simpa only [evTree] using he
  | hd, .take o t, s, r, he => by
    simp only [evTree] at he
    split at he
    case h_2 => cases he
    rename_i s' rs h1
    refine (evTree_hangs hd t s' r he).congr fun E' k => ?_
    simp only [evTree, h1]
    exact k
  | hd, .one o t, s, r, he => by
    simp only [evTree] at he
    split at he
    case h_2 => cases he
    rename_i s' ws h1
    split at he
    case isFalse => cases he
    rename_i hw
    refine (evOne_hangs h1).bind (evTree_hangs hd t s' r he) fun E' k1 k2 => ?_
    simp only [evTree, k1, if_pos hw]
    exact k2
  | hd, .alt o t t2, s, r, he => by
    simp only [evTree] at he
    split at he
    case h_2 => cases he
    rename_i s' ws h1
    split at he
    case isFalse => cases he
    rename_i hw
    split at he
    case h_2 => cases he
    rename_i x y hx hy
    split at he
    case isFalse => cases he
    rename_i hxy
    subst hxy
    refine ((evOne_hangs h1).bind (evTree_hangs hd t s' x hx) (g' := fun E => match evOne E h nb hd s o with
      | some (s', ws) => if (ws.all fun i => !hd.contains i) = true then evTree E h nb lv hd t s' else none
      | none => none) (r := x) fun E' k1 k2 => ?_).bind (evTree_hangs hd t2 s x hy) fun E' k1 k2 => ?_
    · simp only [k1, if_pos hw]; exact k2
    · simp only [evTree]
      split at k1
      case h_2 => cases k1
      rename_i s2 ws2 h2
      split at k1
      case isFalse => cases k1
      rename_i hw2
      simp only [h2, if_pos hw2, k1, k2]
      exact he

theorem evLead_hangs : ∀ (t : Tree) (hd : List Nat) (s : St) (r : St), evLead E h nb lv hd t s = some r → Hangs E (fun E => evLead E h nb lv hd t s) r
  | .take o t, hd, s, r, he => by
    simp only [evLead] at he
    split at he
    case h_2 => cases he
    rename_i s' rs h1
    refine (evLead_hangs t _ s' r he).congr fun E' k => ?_
    simp only [evLead, h1]
    exact k
  | .hold ts t, hd, s, r, he => by
    simp only [evLead] at he
    refine (evLead_hangs t _ s r he).congr fun E' k => ?_
    simp only [evLead]
    exact k
  | .leaf, hd, s, r, he | .free _, hd, s, r, he | .one _ _, hd, s, r, he | .alt _ _ _, hd, s, r, he => by
    simp only [evLead] at he
    split at he
    case isFalse => cases he
    rename_i hl
    refine (evTree_hangs _ _ s r he).congr fun E' k => ?_
    simp only [evLead, if_pos hl]
    exact k

theorem evCode_hangs : ∀ (c : IC) (s : St) (r : Ex × St), evCode E h c s = some r → Hangs E (fun E => evCode E h c s) r
  | .skip, s, r, he => Hangs.const fun E' => by simpa only [evCode] using he
  | .exit _, s, r, he => Hangs.const fun E' => by simpa only [evCode] using he
  | .ret, s, r, he => Hangs.const fun E' => by simpa only [evCode] using he
  | .reg lv ops, s, r, he => by
    simp only [evCode] at he
    cases hq : evOps E h ops s with
    | none => rw [hq] at he; cases he
    | some s' =>
      rw [hq] at he
      refine (evOps_hangs ops s s' hq).congr fun E' k => ?_
      simp only [evCode, k]; exact he
  | .drw lv nb t, s, r, he => by
    simp only [evCode] at he
    cases hq : evLead E h (h.length + s.o.length) lv [] t (pends s nb) with
    | none => rw [hq] at he; cases he
    | some s' =>
      rw [hq] at he
      refine (evLead_hangs t [] _ s' hq).congr fun E' k => ?_
      simp only [evCode, k]; exact he
  | .seq a b, s, r, he => by
    simp only [evCode] at he
    rcases sk_inv he with ⟨s1, h1, h2⟩ | ⟨h1, h2⟩
    · refine (evCode_hangs a s _ h1).bind (evCode_hangs b s1 r h2) fun E' k1 k2 => ?_
      simp only [evCode, sk, k1]; exact k2
    · refine (evCode_hangs a s _ h1).congr fun E' k1 => ?_
      simp only [evCode]; exact sk_of k1 h2
  | .cond lv c a b, s, r, he => by
    simp only [evCode] at he
    split at he
    case h_2 => cases he
    rename_i x hx
    cases x with
    | true =>
      simp only [if_true] at he
      cases hq : evCode E h a s with
      | none => rw [hq] at he; cases he
      | some s' =>
        rw [hq] at he
        refine (evCode_hangs a s s' hq).congr fun E' k => ?_
        simp only [evCode, hx, if_true, k]; exact he
    | false =>
      simp only [Bool.false_eq_true, if_false] at he
      cases hq : evCode E h b s with
      | none => rw [hq] at he; cases he
      | some s' =>
        rw [hq] at he
        refine (evCode_hangs b s s' hq).congr fun E' k => ?_
        simp only [evCode, hx, Bool.false_eq_true, if_false, k]; exact he
  | .block lv id c, s, r, he => by
    simp only [evCode] at he
    cases hq : evCode E h c s with
    | none => rw [hq] at he; cases he
    | some s' =>
      rw [hq] at he
      refine (evCode_hangs c s s' hq).congr fun E' k => ?_
      simp only [evCode, k]; exact he
  | .loop lv _ c, s, r, he => by
    simp only [evCode, loopL] at he
    obtain ⟨n, hn⟩ := lim_some he
    have key : ∀ (n : Nat) (s : St), loopF (fun s => evCode E h c s) lv n s = some r → Hangs E (fun E => loopF (fun s => evCode E h c s) lv n s) r := by
      intro n
      induction n with
      | zero => intro s hh; cases hh
      | succ n ih =>
        intro s hh
        simp only [loopF] at hh
        rcases sk_inv hh with ⟨s1, h1, h2⟩ | ⟨h1, h2⟩
        · refine (evCode_hangs c s _ h1).bind (ih _ h2) fun E' k1 k2 => ?_
          simp only [loopF, sk, k1]; exact k2
        · refine (evCode_hangs c s _ h1).congr fun E' k1 => ?_
          simp only [loopF]; exact sk_of k1 h2
    refine (key n _ hn).congr fun E' k => ?_
    simp only [evCode]
    exact loopL_of k

theorem evBody_hangs {F : IFunc} {args : List AV} {H : List Blk} {r : Res} (he : evBody E F args H = some r) : Hangs E (fun E => evBody E F args H) r := by
  unfold evBody at he
  split at he
  case isFalse => cases he
  rename_i hl
  cases hq : evCode E H F.body ⟨initT 0 args, [], []⟩ with
  | none => rw [hq] at he; cases he
  | some x =>
    rw [hq] at he
    refine (evCode_hangs F.body _ x hq).congr fun E' k => ?_
    simp only [evBody, if_pos hl, k]
    exact he
end

/-! ### A table -/
structure TabOk (P : Program) (T : Tab) : Prop where
  fn : ∀ f F, T.T f = some F → ∃ esc hints, cFunc P f esc hints = some F
  ex : FnOk P T.X
  mixed : P.follows .mixedOrders = true

theorem evF_ok {P : Program} {T : Tab} (hT : TabOk P T) : ∀ n, FnOk P (evF T n)
  | 0 => fun f args H r h => by cases h
  | n + 1 => fun f args H r h => by
    simp only [evF] at h
    split at h
    · rename_i F hF
      obtain ⟨esc, hints, hc⟩ := hT.fn f F hF
      exact evBody_ok (evF_ok hT n) hT.mixed hc h
    · exact hT.ex f args H r h

theorem evF_step (T : Tab) : ∀ n f args H r, evF T n f args H = some r → evF T (n + 1) f args H = some r
  | 0, _, _, _, _, h => by cases h
  | n + 1, f, args, H, r, h => by
    simp only [evF] at h ⊢
    split at h
    · rename_i F hF
      obtain ⟨l, h1, h2⟩ := evBody_hangs h
      exact h2 _ fun q hq => evF_step T n _ _ _ _ (h1 q hq)
    · exact h

theorem evF_mono (T : Tab) {n m : Nat} (hle : n ≤ m) {f args H r} (h : evF T n f args H = some r) : evF T m f args H = some r := by
  induction hle with
  | refl => exact h
  | step _ ih => exact evF_step T _ _ _ _ _ ih

theorem EvF_of {T : Tab} {n : Nat} {f args H r} (h : evF T n f args H = some r) : EvF T f args H = some r := lim_eq (fun n m r hle h => evF_mono T hle h) h

theorem EvF_ok {P : Program} {T : Tab} (hT : TabOk P T) : FnOk P (EvF T) := fun f args H r h => by
  obtain ⟨n, hn⟩ := lim_some h
  exact evF_ok hT n f args H r hn

theorem EvF_body {T : Tab} {f : FuncId} {F : IFunc} (hF : T.T f = some F) {args : List AV} {H : List Blk} {r : Res} (h : evBody (EvF T) F args H = some r) : EvF T f args H = some r := by
  obtain ⟨l, h1, h2⟩ := evBody_hangs h
  have : ∃ n, QS (evF T n) l := by
    clear h2 h
    induction l with
    | nil => exact ⟨0, QS.nil _⟩
    | cons q l ih =>
      obtain ⟨n, hn⟩ := ih fun q hq => h1 q (List.mem_cons_of_mem _ hq)
      obtain ⟨m, hm⟩ := lim_some (h1 q (List.mem_cons_self ..))
      refine ⟨max n m, fun p hp => ?_⟩
      rcases List.mem_cons.1 hp with rfl | hp
      · exact evF_mono T (Nat.le_max_right ..) hm
      · exact evF_mono T (Nat.le_max_left ..) (hn p hp)
  obtain ⟨n, hn⟩ := this
  refine EvF_of (n := n + 1) ?_
  simp only [evF, hF]
  exact h2 _ hn

theorem EvF_ext {T : Tab} {f : FuncId} (hF : T.T f = none) {args : List AV} {H : List Blk} {r : Res} (h : T.X f args H = some r) : EvF T f args H = some r :=
  EvF_of (n := 1) (by simp only [evF, hF]; exact h)

end Go.AM
end

section
set_option linter.unusedSimpArgs false
set_option linter.unusedVariables false
namespace Go.AM
open Go

mutual
def GV.eqb : GV → GV → Bool
  | .bool a, .bool b => a == b
  | .int k a, .int k' b => decide (k = k') && decide (a = b)
  | .str a, .str b => decide (a = b)
  | .sl n a, .sl m b => n == m && eqbLL a b
  | .nsl, .nsl | .nptr, .nptr | .nmap, .nmap | .nfn, .nfn | .nif, .nif => true
  | .fn f, .fn g => decide (f = g)
  | .ifc t v, .ifc u x => decide (t = u) && GV.eqb v x
  | _, _ => false
def eqbL : List GV → List GV → Bool
  | [], [] => true
  | a :: as, b :: bs => GV.eqb a b && eqbL as bs
  | _, _ => false
def eqbLL : List (List GV) → List (List GV) → Bool
  | [], [] => true
  | a :: as, b :: bs => eqbL a b && eqbLL as bs
  | _, _ => false
end

mutual
theorem GV.eqb_eq : ∀ a b : GV, GV.eqb a b = true → a = b
  | .bool a, b, h => by cases b <;> simp [GV.eqb] at h; rw [h]
  | .int k a, b, h => by cases b <;> simp [GV.eqb] at h; rw [h.1, h.2]
  | .str a, b, h => by cases b <;> simp [GV.eqb] at h; rw [h]
  | .sl n a, b, h => by
    cases b <;> simp [GV.eqb] at h
    rename_i m b
    rw [h.1, eqbLL_eq a b h.2]
  | .nsl, b, h => by cases b <;> simp [GV.eqb] at h; rfl
  | .nptr, b, h => by cases b <;> simp [GV.eqb] at h; rfl
  | .nmap, b, h => by cases b <;> simp [GV.eqb] at h; rfl
  | .nfn, b, h => by cases b <;> simp [GV.eqb] at h; rfl
  | .nif, b, h => by cases b <;> simp [GV.eqb] at h; rfl
  | .fn f, b, h => by cases b <;> simp [GV.eqb] at h; rw [h]
  | .ifc t v, b, h => by
    cases b <;> simp [GV.eqb] at h
    rename_i u x
    rw [h.1, GV.eqb_eq v x h.2]
theorem eqbL_eq : ∀ a b : List GV, eqbL a b = true → a = b
  | [], b, h => by cases b <;> simp [eqbL] at h; rfl
  | a :: as, b, h => by
    cases b <;> simp [eqbL] at h
    rename_i x xs
    rw [GV.eqb_eq a x h.1, eqbL_eq as xs h.2]
theorem eqbLL_eq : ∀ a b : List (List GV), eqbLL a b = true → a = b
  | [], b, h => by cases b <;> simp [eqbLL] at h; rfl
  | a :: as, b, h => by
    cases b <;> simp [eqbLL] at h
    rename_i x xs
    rw [eqbL_eq a x h.1, eqbLL_eq as xs h.2]
end

mutual
def AV.eqb : AV → AV → Bool
  | .g a, .g b => GV.eqb a b
  | .agg a, .agg b => eqbA a b
  | .tup a, .tup b => eqbA a b
  | .cp a, .cp b => eqbL a b
  | .ptr a b, .ptr c d => a == c && b == d
  | .ms a b c d e, .ms a' b' c' d' e' => a == a' && b == b' && c == c' && d == d' && e == e'
  | .rp a b c d e, .rp a' b' c' d' e' => a == a' && b == b' && c == c' && d == d' && e == e'
  | .fv f a, .fv g b => decide (f = g) && eqbA a b
  | .bv f a, .bv g b => decide (f = g) && eqbA a b
  | .ifa t v, .ifa u x => decide (t = u) && AV.eqb v x
  | .mp a, .mp b => a == b
  | .undef, .undef => true
  | _, _ => false
def eqbA : List AV → List AV → Bool
  | [], [] => true
  | a :: as, b :: bs => AV.eqb a b && eqbA as bs
  | _, _ => false
end

mutual
theorem AV.eqb_eq : ∀ a b : AV, AV.eqb a b = true → a = b
  | .g a, b, h => by cases b <;> simp [AV.eqb] at h; rw [GV.eqb_eq _ _ h]
  | .agg a, b, h => by
    cases b <;> simp [AV.eqb] at h
    rename_i b
    rw [eqbA_eq a b h]
  | .tup a, b, h => by
    cases b <;> simp [AV.eqb] at h
    rename_i b
    rw [eqbA_eq a b h]
  | .cp a, b, h => by cases b <;> simp [AV.eqb] at h; rw [eqbL_eq _ _ h]
  | .ptr a c, b, h => by cases b <;> simp [AV.eqb] at h; rw [h.1, h.2]
  | .ms a c d e f, b, h => by cases b <;> simp [AV.eqb] at h; obtain ⟨⟨⟨⟨rfl, rfl⟩, rfl⟩, rfl⟩, rfl⟩ := h; rfl
  | .rp a c d e f, b, h => by cases b <;> simp [AV.eqb] at h; obtain ⟨⟨⟨⟨rfl, rfl⟩, rfl⟩, rfl⟩, rfl⟩ := h; rfl
  | .fv f a, b, h => by
    cases b <;> simp [AV.eqb] at h
    rename_i g b
    rw [h.1, eqbA_eq a b h.2]
  | .bv f a, b, h => by
    cases b <;> simp [AV.eqb] at h
    rename_i g b
    rw [h.1, eqbA_eq a b h.2]
  | .via .., b, h => by cases b <;> simp [AV.eqb] at h
  | .ifa t v, b, h => by
    cases b <;> simp [AV.eqb] at h
    rename_i u x
    rw [h.1, AV.eqb_eq v x h.2]
  | .mp a, b, h => by cases b <;> simp [AV.eqb] at h; rw [h]
  | .undef, b, h => by cases b <;> simp [AV.eqb] at h; rfl
theorem eqbA_eq : ∀ a b : List AV, eqbA a b = true → a = b
  | [], b, h => by cases b <;> simp [eqbA] at h; rfl
  | a :: as, b, h => by
    cases b <;> simp [eqbA] at h
    rename_i x xs
    rw [AV.eqb_eq a x h.1, eqbA_eq as xs h.2]
end

def eqbG : Option GV → Option GV → Bool
  | none, none => true
  | some a, some b => GV.eqb a b
  | _, _ => false
theorem eqbG_eq : ∀ a b, eqbG a b = true → a = b
  | none, none, _ => rfl
  | some a, some b, h => by rw [GV.eqb_eq a b h]
  | none, some b, h => by simp [eqbG] at h
  | some a, none, h => by simp [eqbG] at h
def eqbM : List (GV × Option GV) → List (GV × Option GV) → Bool
  | [], [] => true
  | a :: as, b :: bs => GV.eqb a.1 b.1 && eqbG a.2 b.2 && eqbM as bs
  | _, _ => false

def Blk.eqb : Blk → Blk → Bool
  | .cells a, .cells b => eqbA a b
  | .rows a b c, .rows a' b' c' => a == a' && b == b' && eqbLL c c'
  | .bld T a, .bld T' b => T == T' && eqbA a b
  | .trow T a b c, .trow T' a' b' c' => T == T' && a == a' && b == b' && eqbLL c c'
  | .fro a b c, .fro a' b' c' => a == a' && b == b' && eqbLL c c'
  | .map a, .map b => eqbM a b
  | .pend, .pend => true
  | .hid, .hid => true
  | _, _ => false

theorem eqbM_eq : ∀ a b, eqbM a b = true → a = b
  | [], b, h => by cases b <;> simp [eqbM] at h; rfl
  | a :: as, b, h => by
    cases b <;> simp [eqbM] at h
    rename_i x xs
    rw [eqbM_eq as xs h.2, Prod.ext (GV.eqb_eq _ _ h.1.1) (eqbG_eq _ _ h.1.2)]

theorem Blk.eqb_eq (a b : Blk) (h : Blk.eqb a b = true) : a = b := by
  cases a <;> cases b <;> simp [Blk.eqb] at h
  · rw [eqbA_eq _ _ h]
  · rw [h.1, eqbA_eq _ _ h.2]
  · rw [h.1.1.1, h.1.1.2, h.1.2, eqbLL_eq _ _ h.2]
  · rw [h.1.1, h.1.2, eqbLL_eq _ _ h.2]
  · rw [h.1.1, h.1.2, eqbLL_eq _ _ h.2]
  · rw [eqbM_eq _ _ h]
  · rfl
  · rfl

def eqbT : List (Nat × AV) → List (Nat × AV) → Bool
  | [], [] => true
  | a :: as, b :: bs => a.1 == b.1 && AV.eqb a.2 b.2 && eqbT as bs
  | _, _ => false
def eqbB : List (Nat × Blk) → List (Nat × Blk) → Bool
  | [], [] => true
  | a :: as, b :: bs => a.1 == b.1 && Blk.eqb a.2 b.2 && eqbB as bs
  | _, _ => false
def eqbO : List Blk → List Blk → Bool
  | [], [] => true
  | a :: as, b :: bs => Blk.eqb a b && eqbO as bs
  | _, _ => false
theorem eqbT_eq : ∀ a b, eqbT a b = true → a = b
  | [], b, h => by cases b <;> simp [eqbT] at h; rfl
  | a :: as, b, h => by
    cases b <;> simp [eqbT] at h
    rename_i x xs
    rw [eqbT_eq as xs h.2, Prod.ext h.1.1 (AV.eqb_eq _ _ h.1.2)]
theorem eqbB_eq : ∀ a b, eqbB a b = true → a = b
  | [], b, h => by cases b <;> simp [eqbB] at h; rfl
  | a :: as, b, h => by
    cases b <;> simp [eqbB] at h
    rename_i x xs
    rw [eqbB_eq as xs h.2, Prod.ext h.1.1 (Blk.eqb_eq _ _ h.1.2)]
theorem eqbO_eq : ∀ a b, eqbO a b = true → a = b
  | [], b, h => by cases b <;> simp [eqbO] at h; rfl
  | a :: as, b, h => by
    cases b <;> simp [eqbO] at h
    rename_i x xs
    rw [eqbO_eq as xs h.2, Blk.eqb_eq _ _ h.1]

def St.eqb (a b : St) : Bool := eqbT a.t b.t && eqbB a.m b.m && eqbO a.o b.o
theorem St.eqb_eq {a b : St} (h : a.eqb b = true) : a = b := by
  obtain ⟨a1, a2, a3⟩ := a
  obtain ⟨b1, b2, b3⟩ := b
  simp only [St.eqb, Bool.and_eq_true] at h
  rw [eqbT_eq _ _ h.1.1, eqbB_eq _ _ h.1.2, eqbO_eq _ _ h.2]

def rTree (E : FnS) (h : List Blk) (nb : Nat) (lv : List Nat) : List Nat → Tree → St → Option St
  | _, .leaf, s => some (s.kp lv)
  | _, .free t, s => rTree E h nb lv [] t s
  | hd, .hold _ t, s => rTree E h nb lv hd t s
  | hd, .take o t, s => match (if ldOk s hd o = true then evTake h s o else none) with
    | some (s', _) => rTree E h nb lv hd t s'
    | none => none
  | hd, .one o t, s => match evOne E h nb hd s o with
    | some (s', ws) => if (ws.all fun i => !hd.contains i) = true then rTree E h nb lv hd t s' else none
    | none => none
  | hd, .alt o t r, s => match evOne E h nb hd s o with
    | some (s', ws) => if (ws.all fun i => !hd.contains i) = true then
        (match rTree E h nb lv hd t s', rTree E h nb lv hd r s with
          | some x, some y => if x.eqb y = true then some x else none
          | _, _ => none) else none
    | none => none

def rLead (E : FnS) (h : List Blk) (nb : Nat) (lv : List Nat) (hd : List Nat) : Tree → St → Option St
  | .hold ts t, s => rLead E h nb lv (holdIds s ts ++ hd) t s
  | .take o t, s => match evTake h s o with
    | some (s', rs) => rLead E h nb lv (rs ++ hd) t s'
    | none => none
  | t, s => if (hd.all (isLiveB (full h s))) = true then rTree E h nb lv hd t s else none

def rCode (E : FnS) (n : Nat) (h : List Blk) : IC → St → Out
  | .skip, s => some (.normal, s)
  | .reg lv ops, s => kpN lv (nrm (evOps E h ops s))
  | .drw lv nb t, s => nrm (rLead E h (h.length + s.o.length) lv [] t (pends s nb))
  | .seq a b, s => sk (rCode E n h a s) fun s' => rCode E n h b s'
  | .cond lv c a b, s => match val s c with
    | some (.g (.bool x)) => kpN lv (if x = true then rCode E n h a s else rCode E n h b s)
    | _ => none
  | .block lv id c, s => bk lv id (rCode E n h c s)
  | .loop lv _ c, s => loopF (fun s => rCode E n h c s) lv n (s.kp lv)
  | .exit id, s => some (.exit id, s)
  | .ret, s => some (.ret, s)

def rBody (E : FnS) (n : Nat) (F : IFunc) (args : List AV) (H : List Blk) : Option Res :=
  if args.length ≤ F.nt then
    match rCode E n H F.body ⟨initT 0 args, [], []⟩ with
    | some (.ret, s) => finish H F s
    | some (.normal, s) => finish H F s
    | _ => none
  else none

def rF (T : Tab) (k : Nat) : Nat → FnS
  | 0 => fun _ _ _ => none
  | n + 1 => fun f args H => match T.T f with
    | some F => rBody (rF T k n) k F args H
    | none => T.X f args H

section
variable {E : FnS} {h : List Blk} {nb : Nat} {hd lv : List Nat}

theorem rTree_ev : ∀ (hd : List Nat) (t : Tree) (s r : St), rTree E h nb lv hd t s = some r → evTree E h nb lv hd t s = some r
  | hd, .leaf, s, r, he => by simpa only [evTree, rTree] using he
  | hd, .hold ts t, s, r, he => by
    simp only [rTree] at he
    simp only [evTree]
    exact rTree_ev hd t s r he
  | hd, .free t, s, r, he => by
    simp only [rTree] at he
    simp only [evTree]
    exact rTree_ev [] t s r he
  | hd, .take o t, s, r, he => by
    simp only [rTree] at he
    split at he
    case h_2 => cases he
    rename_i s' rs h1
    simp only [evTree, h1]
    exact rTree_ev hd t _ r he
  | hd, .one o t, s, r, he => by
    simp only [rTree] at he
    split at he
    case h_2 => cases he
    rename_i s' ws h1
    split at he
    case isFalse => cases he
    rename_i hw
    simp only [evTree, h1, if_pos hw]
    exact rTree_ev hd t _ r he
  | hd, .alt o t t2, s, r, he => by
    simp only [rTree] at he
    split at he
    case h_2 => cases he
    rename_i s' ws h1
    split at he
    case isFalse => cases he
    rename_i hw
    split at he
    case h_2 => cases he
    rename_i x y hx hy
    split at he
    case isFalse => cases he
    rename_i hxy
    cases he
    have := St.eqb_eq hxy
    subst this
    simp only [evTree, h1, if_pos hw, rTree_ev hd t _ _ hx, rTree_ev hd t2 _ _ hy, if_true]

theorem rLead_ev : ∀ (t : Tree) (hd : List Nat) (s r : St), rLead E h nb lv hd t s = some r → evLead E h nb lv hd t s = some r
  | .take o t, hd, s, r, he => by
    simp only [rLead] at he
    split at he
    case h_2 => cases he
    rename_i s' rs h1
    simp only [evLead, h1]
    exact rLead_ev t _ _ r he
  | .hold ts t, hd, s, r, he => by
    simp only [rLead] at he
    simp only [evLead]
    exact rLead_ev t _ s r he
  | .leaf, hd, s, r, he | .free _, hd, s, r, he | .one _ _, hd, s, r, he | .alt _ _ _, hd, s, r, he => by
    simp only [rLead] at he
    simp only [evLead]
    split at he
    case isFalse => cases he
    rename_i hl
    rw [if_pos hl]
    exact rTree_ev _ _ s r he

theorem rCode_ev (n : Nat) : ∀ (c : IC) (s : St) (r : Ex × St), rCode E n h c s = some r → evCode E h c s = some r
  | .skip, s, r, he => by simpa only [evCode, rCode] using he
  | .exit _, s, r, he => by simpa only [evCode, rCode] using he
  | .ret, s, r, he => by simpa only [evCode, rCode] using he
  | .reg lv ops, s, r, he => by simpa only [evCode, rCode] using he
  | .drw lv nb t, s, r, he => by
    simp only [rCode] at he
    simp only [evCode]
    cases hq : rLead E h (h.length + s.o.length) lv [] t (pends s nb) with
    | none => rw [hq] at he; cases he
    | some s' => rw [hq] at he; rw [rLead_ev _ _ _ _ hq]; exact he
  | .seq a b, s, r, he => by
    simp only [rCode] at he
    simp only [evCode]
    rcases sk_inv he with ⟨s1, h1, h2⟩ | ⟨h1, h2⟩
    · rw [rCode_ev n a s _ h1]; exact rCode_ev n b s1 r h2
    · exact sk_of (rCode_ev n a s _ h1) h2
  | .cond lv c a b, s, r, he => by
    simp only [rCode] at he
    split at he
    case h_2 => cases he
    rename_i x hx
    simp only [evCode, hx]
    cases x with
    | true =>
      simp only [if_true] at he ⊢
      cases hq : rCode E n h a s with
      | none => rw [hq] at he; cases he
      | some s' => rw [hq] at he; rw [rCode_ev n a s _ hq]; exact he
    | false =>
      simp only [Bool.false_eq_true, if_false] at he ⊢
      cases hq : rCode E n h b s with
      | none => rw [hq] at he; cases he
      | some s' => rw [hq] at he; rw [rCode_ev n b s _ hq]; exact he
  | .block lv id c, s, r, he => by
    simp only [rCode] at he
    simp only [evCode]
    cases hq : rCode E n h c s with
    | none => rw [hq] at he; cases he
    | some s' => rw [hq] at he; rw [rCode_ev n c s _ hq]; exact he
  | .loop lv _ c, s, r, he => by
    simp only [rCode] at he
    simp only [evCode]
    have key : ∀ (m : Nat) (s : St), loopF (fun s => rCode E n h c s) lv m s = some r → loopF (fun s => evCode E h c s) lv m s = some r := by
      intro m
      induction m with
      | zero => intro s hh; cases hh
      | succ m ih =>
        intro s hh
        simp only [loopF] at hh ⊢
        rcases sk_inv hh with ⟨s1, h1, h2⟩ | ⟨h1, h2⟩
        · rw [rCode_ev n c s _ h1]; exact ih _ h2
        · exact sk_of (rCode_ev n c s _ h1) h2
    exact loopL_of (key n _ he)

theorem rBody_ev {n : Nat} {F : IFunc} {args : List AV} {H : List Blk} {r : Res} (he : rBody E n F args H = some r) : evBody E F args H = some r := by
  unfold rBody at he
  unfold evBody
  split at he
  case isFalse => cases he
  rename_i hl
  rw [if_pos hl]
  cases hq : rCode E n H F.body ⟨initT 0 args, [], []⟩ with
  | none => rw [hq] at he; cases he
  | some x => rw [hq] at he; rw [rCode_ev n _ _ _ hq]; exact he
end

theorem rF_ev (T : Tab) (k : Nat) : ∀ (n : Nat) (f : FuncId) (args : List AV) (H : List Blk) (r : Res), rF T k n f args H = some r → evF T n f args H = some r
  | 0, _, _, _, _, h => by cases h
  | n + 1, f, args, H, r, h => by
    simp only [rF] at h
    split at h
    · rename_i F hF
      have h1 := rBody_ev h
      obtain ⟨l, h2, h3⟩ := evBody_hangs h1
      simp only [evF, hF]
      exact h3 _ fun q hq => rF_ev T k n _ _ _ _ (h2 q hq)
    · rename_i hF
      simp only [evF, hF]
      exact h

/-- What the running program answers, the functions answer. -/
theorem EvF_run {T : Tab} {k n : Nat} {f : FuncId} {args : List AV} {H : List Blk} {r : Res} (h : rF T k n f args H = some r) : EvF T f args H = some r :=
  EvF_of (rF_ev T k n f args H r h)

end Go.AM
end

section
set_option linter.unusedSimpArgs false
set_option linter.unusedVariables false
namespace Go.AM
open Go Go.RowKit Go.ChangeShapes

def tileP (P : Program) : List (Nat × TypeId) → Nat → Nat → Bool
  | [], off, e => decide (off = e)
  | (o, t) :: r, off, e => decide (o = off) && tileP P r (off + P.cellsOf t) e

def partsF (fs : Array Field) : List (Nat × TypeId) := fs.toList.map fun f => (f.offset, f.type)
def partsA (P : Program) (n : Nat) (e : TypeId) : List (Nat × TypeId) := (List.range n).map fun i => (i * P.cellsOf e, e)

/-- Types whose values are data: bools, whole numbers, texts, slices, structs, arrays. -/
def dataT (P : Program) : Nat → TypeId → Bool
  | 0, _ => false
  | d + 1, t => match P.underlying t with
    | some .bool | some (.int _) | some .string => true
    | some (.slice e) => decide (0 < P.cellsOf e) && dataT P d e
    | some (.struct fs) => ((partsF fs).all fun p => dataT P d p.2) && tileP P (partsF fs) 0 (P.cellsOf t)
    | some (.array n e) => ((partsA P n e).all fun p => dataT P d p.2) && tileP P (partsA P n e) 0 (P.cellsOf t)
    | _ => false

/-- The cells that a value of a type may have. -/
def TypG (P : Program) : Nat → TypeId → List GV → Prop
  | 0, _, _ => False
  | d + 1, t, gs => match P.underlying t with
    | some .bool => ∃ b, gs = [.bool b]
    | some (.int k) => ∃ n, gs = [.int k n] ∧ (Lit.int k n).wf = true
    | some .string => ∃ s, gs = [.str s] ∧ s.length ≤ 9223372036854775807
    | some (.slice e) => gs = [.nsl] ∨ ∃ els : List (List GV), gs = [.sl (P.cellsOf e) els] ∧ els.length ≤ 9223372036854775807 ∧ ∀ el ∈ els, el.length = P.cellsOf e ∧ TypG P d e el
    | some (.struct fs) => gs.length = P.cellsOf t ∧ ∀ p ∈ partsF fs, TypG P d p.2 ((gs.drop p.1).take (P.cellsOf p.2))
    | some (.array n e) => gs.length = P.cellsOf t ∧ ∀ p ∈ partsA P n e, TypG P d p.2 ((gs.drop p.1).take (P.cellsOf p.2))
    | _ => False

/-- Cells and what they hold. -/
def GRs (E : Env) (gs : List GV) (cs : List Value) : Prop := gs.length = cs.length ∧ ∀ (j : Nat) (g : GV) (c : Value), gs[j]? = some g → cs[j]? = some c → GR E g c

theorem GRs.one {E : Env} {g : GV} {c : Value} (h : GR E g c) : GRs E [g] [c] := ⟨rfl, fun j x y hx hy => by
  cases j with
  | zero => simp at hx hy; subst hx hy; exact h
  | succ j => simp at hx⟩

theorem GRs.append {E : Env} {gs gs' : List GV} {cs cs' : List Value} (h : GRs E gs cs) (h' : GRs E gs' cs') : GRs E (gs ++ gs') (cs ++ cs') := by
  refine ⟨by simp [h.1, h'.1], fun j x y hx hy => ?_⟩
  by_cases hl : j < gs.length
  · rw [List.getElem?_append_left hl] at hx
    rw [List.getElem?_append_left (by rw [← h.1]; exact hl)] at hy
    exact h.2 j x y hx hy
  · rw [List.getElem?_append_right (by omega)] at hx
    rw [List.getElem?_append_right (by rw [← h.1]; omega)] at hy
    exact h'.2 _ x y hx (by rw [h.1]; exact hy)

theorem tile_ok {P : Program} {E : Env} {d : Nat} {cs : List Value} : ∀ (ps : List (Nat × TypeId)) (off : Nat), tileP P ps off cs.length = true →
    (∀ p ∈ ps, ∃ gs, TypG P d p.2 gs ∧ GRs E gs ((cs.drop p.1).take (P.cellsOf p.2))) →
    ∃ gs, GRs E gs (cs.drop off) ∧ ∀ p ∈ ps, off ≤ p.1 ∧ TypG P d p.2 ((gs.drop (p.1 - off)).take (P.cellsOf p.2))
  | [], off, ht, _ => by
    simp [tileP] at ht
    subst ht
    exact ⟨[], ⟨by simp, fun j x y hx => by simp at hx⟩, fun p hp => by cases hp⟩
  | (o, t) :: r, off, ht, hh => by
    simp only [tileP, Bool.and_eq_true, decide_eq_true_eq] at ht
    obtain ⟨rfl, ht⟩ := ht
    obtain ⟨gs1, h1, h2⟩ := hh (o, t) (by simp)
    obtain ⟨gs2, h3, h4⟩ := tile_ok r _ ht (fun p hp => hh p (by simp [hp]))
    simp only at h1 h2
    have hle : ∀ (ps : List (Nat × TypeId)) (off e : Nat), tileP P ps off e = true → off ≤ e := by
      intro ps
      induction ps with
      | nil => intro off e h; simp [tileP] at h; omega
      | cons p ps ih =>
        intro off e h
        simp only [tileP, Bool.and_eq_true] at h
        have := ih _ _ h.2
        omega
    have hle := hle r _ _ ht
    have hg1 : gs1.length = P.cellsOf t := by rw [h2.1]; simp; omega
    refine ⟨gs1 ++ gs2, ?_, fun p hp => ?_⟩
    · have e : cs.drop o = (cs.drop o).take (P.cellsOf t) ++ cs.drop (o + P.cellsOf t) := by
        rw [← List.drop_drop, List.take_append_drop]
      rw [e]
      exact h2.append h3
    · rcases List.mem_cons.1 hp with rfl | hp
      · refine ⟨Nat.le_refl _, ?_⟩
        simp only [Nat.sub_self, List.drop_zero]
        rw [List.take_append_of_le_length (by omega), ← hg1, List.take_length]
        exact h1
      · obtain ⟨k1, k2⟩ := h4 p hp
        refine ⟨by omega, ?_⟩
        rw [List.drop_append, List.drop_eq_nil_of_le (by omega), List.nil_append, hg1, show p.1 - o - P.cellsOf t = p.1 - (o + P.cellsOf t) from by omega]
        exact k2


theorem maxLen_eq : maxLen = 9223372036854775807 := by decide

theorem mapM_range_get {w : World} {b : Nat} {a : Addr} {n : Nat} {l : List Value} (h : w.cells? b a n = some l) : l.length = n ∧ ∀ j, j < n → w.cell? (a.add j) = l[j]? := by
  unfold World.cells? at h
  split at h
  · have h1 := mapM_some_length h
    refine ⟨by simpa using h1, fun j hj => ?_⟩
    have := mapM_some_get h j j (by simp [hj])
    exact this
  · cases h

section
variable {H : Type} {enc : TypeId × Value → H} {P : Program} {W : World} {L : Nat → Lc} {spare : Nat → Bool} {held : Bool}

/-- What reads as data is told of by ground values. -/
theorem open_data : ∀ (d : Nat) (t : TypeId) (cs : List Value) (fuel : Nat) (x : DataW H × List MemPlace), dataT P d t = true → DataW.trod enc P W 0 spare held fuel t cs = some x →
    ∃ gs, GRs (envOf W [] L) gs cs ∧ TypG P d t gs
  | 0, _, _, _, _, hd, _ => by cases hd
  | d + 1, t, cs, fuel, x, hd, hx => by
    simp only [dataT] at hd
    split at hd
    · rename_i hu
      obtain ⟨b, rfl, _⟩ := DataW.trod_bool hu hx
      exact ⟨_, .one (.bool b), by simp only [TypG, hu]; exact ⟨b, rfl⟩⟩
    · rename_i k hu
      obtain ⟨n, rfl, _, hw⟩ := DataW.trod_int hu hx
      exact ⟨_, .one (.int k n), by simp only [TypG, hu]; exact ⟨n, rfl, hw⟩⟩
    · rename_i hu
      obtain ⟨s, rfl, _, hs⟩ := DataW.trod_string hu hx
      refine ⟨[.str s.data.toList], .one ?_, by simp only [TypG, hu]; exact ⟨_, rfl, by rw [maxLen_eq] at hs; rw [Array.length_toList]; exact hs⟩⟩
      have := GR.str (E := envOf W [] L) s.data.toList
      simpa using this
    · rename_i e hu
      simp only [Bool.and_eq_true, decide_eq_true_eq] at hd
      obtain ⟨hpos, hd⟩ := hd
      rcases DataW.trod_slice hu hx with ⟨rfl, _⟩ | ⟨a, len, cap, elems, rest, n, rfl, rfl, _, hb, hlc, hcm, hel, hget, hrest⟩
      · exact ⟨_, .one .nsl, by simp only [TypG, hu]; exact .inl trivial⟩
      · -- the elements
        have hE : ∀ i, i < len → ∃ l gs, W.cells? 0 (a.add (i * P.cellsOf e)) (P.cellsOf e) = some l ∧ GRs (envOf W [] L) gs l ∧ TypG P d e gs := by
          intro i hi
          have h1 := hget i hi
          have h2 : i < elems.length := by omega
          rw [List.getElem?_eq_getElem h2] at h1
          cases hq : W.cells? 0 (a.add (i * P.cellsOf e)) (P.cellsOf e) with
          | none => rw [hq] at h1; cases h1
          | some l =>
            rw [hq] at h1
            obtain ⟨gs, k1, k2⟩ := open_data d e l n _ hd h1
            exact ⟨l, gs, rfl, k1, k2⟩
        have hF : ∃ els : List (List GV), els.length = len ∧ ∀ (i : Nat) (el : List GV), els[i]? = some el → ∃ l, W.cells? 0 (a.add (i * P.cellsOf e)) (P.cellsOf e) = some l ∧ GRs (envOf W [] L) el l ∧ TypG P d e el := by
          clear hget hlc hel hx hrest
          induction len with
          | zero => exact ⟨[], rfl, fun i el h => by simp at h⟩
          | succ m ih =>
            obtain ⟨els, k1, k2⟩ := ih (fun i hi => hE i (by omega))
            obtain ⟨l, gs, h1, h2, h3⟩ := hE m (by omega)
            refine ⟨els ++ [gs], by simp [k1], fun i el hi => ?_⟩
            by_cases hlt : i < els.length
            · rw [List.getElem?_append_left hlt] at hi; exact k2 i el hi
            · rw [List.getElem?_append_right (by omega)] at hi
              have : i - els.length = 0 := by
                cases hq : i - els.length with
                | zero => rfl
                | succ n => rw [hq] at hi; simp at hi
              rw [this] at hi
              simp at hi
              subst hi
              have : i = m := by omega
              subst this
              exact ⟨l, h1, h2, h3⟩
        obtain ⟨els, hl, hels⟩ := hF
        have hlenof : ∀ (i : Nat) (el : List GV), els[i]? = some el → el.length = P.cellsOf e := fun i el hi => by
          obtain ⟨l, k1, k2, _⟩ := hels i el hi
          rw [k2.1]; exact (mapM_range_get k1).1
        refine ⟨[.sl (P.cellsOf e) els], .one ?_, ?_⟩
        · by_cases h0 : els = []
          · have : len = 0 := by rw [← hl, h0]; rfl
            subst this
            rw [h0]
            exact .sl0 _ _ _
          · have h1 : 0 < els.length := by cases els <;> simp at h0 ⊢
            have hspot : a.spot = none := by
              obtain ⟨l, k1, k2, _⟩ := hels 0 _ (List.getElem?_eq_getElem h1)
              obtain ⟨j1, j2⟩ := mapM_range_get k1
              have := j2 0 hpos
              rw [List.getElem?_eq_getElem (by omega)] at this
              have h3 := World.cell?_spot this
              obtain ⟨b, o, sp⟩ := a
              cases sp with
              | none => rfl
              | some k => simp [Addr.add] at h3
            obtain ⟨b, o, sp⟩ := a
            simp only at hspot
            subst hspot
            have hcell : ∀ (i : Nat) (el : List GV) (j : Nat) (g : GV), els[i]? = some el → el[j]? = some g →
                ∃ c, W.cell? ⟨b, o + i * P.cellsOf e + j, none⟩ = some c ∧ ((W.cells? 0 ((⟨b, o, none⟩ : Addr).add (i * P.cellsOf e)) (P.cellsOf e)).getD [])[j]? = some c ∧ GR (envOf W [] L) g c := by
              intro i el j g hi hj
              obtain ⟨l, k1, k2, _⟩ := hels i el hi
              obtain ⟨j1, j2⟩ := mapM_range_get k1
              have hjl : j < el.length := (List.getElem?_eq_some_iff.1 hj).1
              have hlj : j < l.length := by rw [← k2.1]; exact hjl
              have h3 := j2 j (by omega)
              rw [add_none, add_none, List.getElem?_eq_getElem hlj] at h3
              exact ⟨l[j], h3, by rw [k1]; simp [hlj], k2.2 j g _ hj (List.getElem?_eq_getElem hlj)⟩
            have hbs : b < W.heap.size := by
              obtain ⟨l, k1, k2, _⟩ := hels 0 _ (List.getElem?_eq_getElem h1)
              have h4 := hlenof 0 _ (List.getElem?_eq_getElem h1)
              obtain ⟨c, h5, _⟩ := hcell 0 _ 0 _ (List.getElem?_eq_getElem h1) (List.getElem?_eq_getElem (by omega))
              unfold World.cell? at h5
              split at h5
              · rename_i hh; exact (Array.getElem?_eq_some_iff.1 hh).1
              · cases h5
            rw [← hl]
            refine .sl (fun i j => (((W.cells? 0 ((⟨b, o, none⟩ : Addr).add (i * P.cellsOf e)) (P.cellsOf e)).getD [])[j]?).getD Go.undef) (by omega) hbs (fun ⟨id, k, hk, _⟩ => by simp at hk) hlenof ?_ ?_
            · intro i el j g hi hj
              obtain ⟨c, k1, k2, _⟩ := hcell i el j g hi hj
              show W.cell? _ = _
              rw [k1, k2]; rfl
            · intro i el j g hi hj
              obtain ⟨c, k1, k2, k3⟩ := hcell i el j g hi hj
              rw [k2]; exact k3
        · simp only [TypG, hu]
          refine .inr ⟨els, rfl, by rw [maxLen_eq] at hcm; omega, fun el hel' => ?_⟩
          obtain ⟨i, hi, hi'⟩ := List.mem_iff_getElem.1 hel'
          have hg : els[i]? = some el := by rw [List.getElem?_eq_getElem hi, hi']
          obtain ⟨l, k1, k2, k3⟩ := hels i el hg
          exact ⟨hlenof i el hg, k3⟩
    · rename_i fs hu
      obtain ⟨xs, n, rfl, _, hl, hxl, hf⟩ := DataW.trod_struct hu hx
      simp only [Bool.and_eq_true, List.all_eq_true] at hd
      obtain ⟨gs, k1, k2⟩ := tile_ok (d := d) (E := envOf W [] L) (cs := cs) (partsF fs) 0 (by rw [hl]; exact hd.2) (fun p hp => by
        simp only [partsF, List.mem_map] at hp
        obtain ⟨f, hfm, rfl⟩ := hp
        obtain ⟨i, hi, hi'⟩ := List.mem_iff_getElem.1 hfm
        have h1 := hf i f (by rw [← Array.getElem?_toList, List.getElem?_eq_getElem hi, hi'])
        have h2 : i < xs.length := by rw [hxl]; simpa using hi
        rw [List.getElem?_eq_getElem h2] at h1
        obtain ⟨gs, k1, k2⟩ := open_data d f.type _ n _ (hd.1 (f.offset, f.type) (by simp only [partsF, List.mem_map]; exact ⟨f, hfm, rfl⟩)) h1
        exact ⟨gs, k2, k1⟩)
      refine ⟨gs, by simpa using k1, ?_⟩
      simp only [TypG, hu]
      exact ⟨by rw [k1.1]; simpa using hl, fun p hp => by simpa using (k2 p hp).2⟩
    · rename_i n e hu
      obtain ⟨xs, m, rfl, _, hl, hxl, hf⟩ := DataW.trod_array hu hx
      simp only [Bool.and_eq_true, List.all_eq_true] at hd
      obtain ⟨gs, k1, k2⟩ := tile_ok (d := d) (E := envOf W [] L) (cs := cs) (partsA P n e) 0 (by rw [hl]; exact hd.2) (fun p hp => by
        have hp' := hp
        simp only [partsA, List.mem_map, List.mem_range] at hp
        obtain ⟨i, hi, rfl⟩ := hp
        have h1 := hf i hi
        rw [List.getElem?_eq_getElem (by omega)] at h1
        obtain ⟨gs, k1, k2⟩ := open_data d e _ m _ (hd.1 _ hp') h1
        exact ⟨gs, k2, k1⟩)
      refine ⟨gs, by simpa using k1, ?_⟩
      simp only [TypG, hu]
      exact ⟨by rw [k1.1]; simpa using hl, fun p hp => by simpa using (k2 p hp).2⟩
    · cases hd
end

end Go.AM
end

section
set_option linter.unusedSimpArgs false
set_option linter.unusedVariables false
namespace Go.AM
open Go Go.RowKit Go.ChangeShapes Go.WideShapes

def oneG : List GV → AV
  | [g] => .g g
  | _ => .undef

/-- An argument's value out of its cells. -/
def avT (P : Program) (t : TypeId) (gs : List GV) : AV :=
  match P.underlying t with
  | some (.struct _) | some (.array _ _) => .agg (gs.map .g)
  | _ => oneG gs

def TypAll (P : Program) (d : Nat) : List TypeId → List (List GV) → Prop
  | [], [] => True
  | t :: ts, g :: gs => TypG P d t g ∧ TypAll P d ts gs
  | _, _ => False

def avs (P : Program) : List TypeId → List (List GV) → List AV
  | t :: ts, g :: gs => avT P t g :: avs P ts gs
  | _, _ => []

theorem TypAll.cons_inv {P : Program} {d : Nat} {t : TypeId} {ts : List TypeId} {gss : List (List GV)} (h : TypAll P d (t :: ts) gss) : ∃ g gs, gss = g :: gs ∧ TypG P d t g ∧ TypAll P d ts gs := by
  cases gss with
  | nil => exact h.elim
  | cons g gs => exact ⟨g, gs, rfl, h.1, h.2⟩
theorem TypAll.nil_inv {P : Program} {d : Nat} {gss : List (List GV)} (h : TypAll P d [] gss) : gss = [] := by
  cases gss with
  | nil => rfl
  | cons g gs => exact h.elim
theorem TypG.int_inv {P : Program} {d : Nat} {t : TypeId} {k : IntKind} {gs : List GV} (hu : P.underlying t = some (.int k)) (h : TypG P (d + 1) t gs) :
    ∃ n, gs = [.int k n] ∧ k.min ≤ n ∧ n ≤ k.max ∧ avT P t gs = .g (.int k n) := by
  simp only [TypG, hu] at h
  obtain ⟨n, rfl, hw⟩ := h
  refine ⟨n, rfl, ?_, ?_, by simp only [avT, hu, oneG]⟩ <;> simp only [Lit.wf, Bool.and_eq_true, decide_eq_true_eq] at hw
  · exact hw.1
  · exact hw.2
theorem TypG.bool_inv {P : Program} {d : Nat} {t : TypeId} {gs : List GV} (hu : P.underlying t = some .bool) (h : TypG P (d + 1) t gs) : ∃ b, gs = [.bool b] ∧ avT P t gs = .g (.bool b) := by
  simp only [TypG, hu] at h
  obtain ⟨n, rfl⟩ := h
  exact ⟨n, rfl, by simp only [avT, hu, oneG]⟩
theorem TypG.str_inv {P : Program} {d : Nat} {t : TypeId} {gs : List GV} (hu : P.underlying t = some .string) (h : TypG P (d + 1) t gs) :
    ∃ s, gs = [.str s] ∧ s.length ≤ 9223372036854775807 ∧ avT P t gs = .g (.str s) := by
  simp only [TypG, hu] at h
  obtain ⟨n, rfl, hw⟩ := h
  exact ⟨n, rfl, hw, by simp only [avT, hu, oneG]⟩

section
variable {H : Type} {enc : TypeId × Value → H} {P : Program} {W : World} {L : Nat → Lc} {spare : Nat → Bool} {held : Bool}

theorem GRs.agg {E : Env} {gs : List GV} {C : Array Value} (h : GRs E gs C.toList) : AR E (.agg (gs.map .g)) (.agg C) := by
  have key : ∀ (j : Nat) (v : Value), C[j]? = some v → ∃ g, gs[j]? = some g ∧ GR E g v := fun j v hv => by
    have hlt : j < gs.length := by rw [h.1]; simpa using (Array.getElem?_eq_some_iff.1 hv).1
    exact ⟨gs[j], List.getElem?_eq_getElem hlt, h.2 j _ v (List.getElem?_eq_getElem hlt) (by simpa using hv)⟩
  refine .agg (by simpa using h.1) (fun j a v ha hv => ?_) (fun j v hv => ?_)
  · obtain ⟨g, h1, h2⟩ := key j v hv
    rw [List.getElem?_map, h1] at ha
    cases ha
    exact .g h2
  · obtain ⟨g, h1, h2⟩ := key j v hv
    exact h2.one

theorem open_arg {d : Nat} {t : TypeId} {v : Value} {b0 : Nat} {dd : DataW H} {ps : List MemPlace} (hd : dataT P d t = true) (hval : Value.okWide P W .any b0 t v) (h : DataW.Trod enc P W 0 spare held t v dd ps) :
    ∃ gs, TypG P d t gs ∧ AR (envOf W [] L) (avT P t gs) v := by
  obtain ⟨fuel, hf⟩ := h
  obtain ⟨gs, h1, h2⟩ := open_data (L := L) d t _ fuel _ hd hf
  refine ⟨gs, h2, ?_⟩
  have single : ∀ c, v = c → c.cells.toList = [c] → AR (envOf W [] L) (oneG gs) v := by
    rintro c rfl hc
    rw [hc] at h1
    match gs, h1 with
    | [g], h1 => exact .g (h1.2 0 g v rfl rfl)
    | [], h1 => have := h1.1; simp at this
    | _ :: _ :: _, h1 => have := h1.1; simp at this
  cases d with
  | zero => cases hd
  | succ d =>
    simp only [dataT] at hd
    unfold avT
    split at hd
    · rename_i hu
      rw [hu]
      obtain ⟨b, rfl⟩ := okWide_bool hu hval
      exact single _ rfl rfl
    · rename_i k hu
      rw [hu]
      obtain ⟨b, rfl⟩ := okWide_int hu hval
      exact single _ rfl rfl
    · rename_i hu
      rw [hu]
      obtain ⟨b, rfl⟩ := okWide_string hu hval
      exact single _ rfl rfl
    · rename_i e hu
      rw [hu]
      obtain ⟨a, l, c, rfl⟩ := okWide_slice hu hval
      exact single _ rfl rfl
    · rename_i fs hu
      rw [hu]
      simp only [Value.okWide, hu] at hval
      obtain ⟨C, rfl, _, _⟩ := hval
      exact GRs.agg h1
    · rename_i n e hu
      rw [hu]
      simp only [Value.okWide, hu] at hval
      obtain ⟨C, rfl, _, _⟩ := hval
      exact GRs.agg h1
    · cases hd

theorem open_args {d b0 : Nat} : ∀ (ts : List TypeId) (vs : List Value) (ds : List (DataW H)) (ps : List MemPlace), (ts.all (dataT P d)) = true → DataW.TrodAll enc P W 0 spare held ts vs ds ps →
    (∀ (j : Nat) t v, ts[j]? = some t → vs[j]? = some v → Value.okWide P W .any b0 t v) →
    ∃ gss, TypAll P d ts gss ∧ (avs P ts gss).length = vs.length ∧ ∀ (j : Nat) (a : AV) (v : Value), (avs P ts gss)[j]? = some a → vs[j]? = some v → AR (envOf W [] L) a v
  | [], vs, ds, ps, _, h, _ => by
    obtain ⟨rfl, _, _⟩ := trodAll_nil h
    exact ⟨[], trivial, rfl, fun j a v ha => by simp [avs] at ha⟩
  | t :: ts, vs, ds, ps, hd, h, hval => by
    obtain ⟨v, vs', d', ds', p, q, rfl, rfl, rfl, h1, h2⟩ := trodAll_cons h
    simp only [List.all_cons, Bool.and_eq_true] at hd
    obtain ⟨gs, k1, k2⟩ := open_arg (L := L) hd.1 (hval 0 t v rfl rfl) h1
    obtain ⟨gss, k3, k4, k5⟩ := open_args ts vs' ds' q hd.2 h2 (fun j t v ht hv => hval (j + 1) t v (by simpa using ht) (by simpa using hv))
    refine ⟨gs :: gss, ⟨k1, k3⟩, by simp [avs, k4], fun j a u ha hu => ?_⟩
    cases j with
    | zero => simp [avs] at ha hu; subst ha hu; exact k2
    | succ j => exact k5 j a u (by simpa [avs] using ha) (by simpa using hu)

theorem enter_of_cFunc {f : FuncId} {esc : Bool} {hints : List (List Nat)} {F : IFunc} (hF : cFunc P f esc hints = some F) (xs : Array Value) (w : World) : (callFunc f xs).run P w = .ok (.enter f xs) w := by
  unfold cFunc at hF
  split at hF
  case h_2 => cases hF
  rename_i fn hfn
  split at hF
  case h_2 => cases hF
  rename_i c hbody
  split at hF
  case isFalse => cases hF
  rename_i hname
  simp [callFunc, hfn, hname, hbody]
  simpa using hname

/-- What a law's row asks of the call. -/
theorem law_calls {T : Tab} (hT : TabOk P T) {f : FuncId} {F : IFunc} (hF : T.T f = some F) {d b0 : Nat} {ts : List TypeId} {args : Array Value} {ds : List (DataW H)} {ps : List MemPlace}
    (hd : (ts.all (dataT P d)) = true) (hA : DataW.TrodAll enc P W 0 spare held ts args.toList ds ps) (hval : ∀ (j : Nat) t v, ts[j]? = some t → args[j]? = some v → Value.okWide P W .any b0 t v)
    (spec : ∀ gss, TypAll P d ts gss → EvF T f (avs P ts gss) [] = some ⟨.g (.bool true), [], []⟩) :
    Calls P f args W fun e W' => e = .returned (.bool true) ∧ Below W.heap.size W W' := by
  obtain ⟨gss, h1, h2, h3⟩ := open_args (L := fun _ => ⟨none, 0, 0, false⟩) ts args.toList ds ps hd hA (fun j t v ht hv => hval j t v ht (by simpa using hv))
  have hr : HR W [] (fun _ => ⟨none, 0, 0, false⟩) := ⟨fun id k hk => by simp at hk, fun i j b x y hx => by simp at hx⟩
  have hs := EvF_ok hT f _ [] _ (spec gss h1) W _ args hr ⟨by simpa using h2, fun j a v ha hv => h3 j a v ha (by simpa using hv)⟩
  obtain ⟨esc, hints, hc⟩ := hT.fn f F hF
  rcases hs with ⟨_, hs⟩ | ⟨v, w', hs, _⟩
  · refine hs.mono fun e w' ⟨v, he, L', k1, k2, k3, k4⟩ => ?_
    have := k1.inv_g.inv_bool
    subst this
    refine ⟨he, k3.os, k3.tape, k3.output, k3.size, fun k hk => (k3.keep k hk ?_).1⟩
    rintro ⟨id, x, hx, _⟩
    simp at hx
  · rw [enter_of_cFunc hc] at hs
    cases hs
end

end Go.AM
end

section
set_option linter.unusedSimpArgs false
set_option linter.unusedVariables false
namespace Go.AM
open Go

def lookF : List (Nat × IFunc) → Nat → Option IFunc
  | [], _ => none
  | (k, F) :: r, f => if k = f then some F else lookF r f

def AllC (P : Program) : List (Nat × IFunc) → Prop
  | [] => True
  | p :: r => (∃ esc hints, cFunc P p.1 esc hints = some p.2) ∧ AllC P r

theorem tab_ok {P : Program} (hm : P.follows .mixedOrders = true) : ∀ {l : List (Nat × IFunc)}, AllC P l → ∀ f F, lookF l f = some F → ∃ esc hints, cFunc P f esc hints = some F
  | [], _, f, F, h => by cases h
  | (k, G) :: r, ⟨h1, h2⟩, f, F, h => by
    simp only [lookF] at h
    split at h
    · rename_i e
      subst e
      cases h
      exact h1
    · exact tab_ok hm h2 f F h

/-- What functions without code answer: those that hand back what they are given. -/
def idX (ks : List Nat) : FnS := fun f args _ => match args with
  | [v] => if ks.contains f = true then some ⟨v, [], []⟩ else none
  | _ => none

def IdX (P : Program) (k : Nat) : Prop :=
  ∃ fn, P.funcs[k]? = some fn ∧ (fn.name == "runtime.NumGoroutine") = false ∧ fn.body.isNone = true ∧ Extern.findNext fn = none ∧ Extern.find fn = some Extern.AbiNoEscape.same

theorem idX_ok {P : Program} {ks : List Nat} (h : ∀ k, ks.contains k = true → IdX P k) : FnOk P (idX ks) := by
  intro f args H r hr
  unfold idX at hr
  split at hr
  · rename_i v
    split at hr
    · rename_i hk
      cases hr
      obtain ⟨fn, h1, h2, h3, h4, h5⟩ := h f hk
      intro w L xs hw ha
      right
      have hx : xs = #[xs[0]'(by rw [← ha.1]; exact Nat.one_pos)] := by
        apply Array.ext
        · simp [← ha.1]
        · intro i h1 h2
          have : i = 0 := by simp at h2; omega
          subst this; rfl
      have h0 := ha.2 0 v (xs[0]'(by rw [← ha.1]; exact Nat.one_pos)) rfl (by simp)
      refine ⟨xs[0]'(by rw [← ha.1]; exact Nat.one_pos), w, ?_, L, ?_, ?_, ?_, fun _ _ _ => ⟨rfl, fun _ _ _ => rfl⟩⟩
      · rw [run_callFunc_extern h1 h2 h3 h4 h5]
        generalize xs[0]'(by rw [← ha.1]; exact Nat.one_pos) = x0 at hx
        subst hx
        rfl
      · simpa [applyM] using h0
      · simpa [applyM] using hw
      · simpa [applyM] using Ext.refl _
    · cases hr
  · cases hr

/-! ### The words of a walk -/
theorem look_nil (i : Nat) : look [] i = none := rfl
theorem look_cons (a i : Nat) (v : AV) (t : List (Nat × AV)) : look ((a, v) :: t) i = if a = i then some v else look t i := rfl
theorem keep_nil (T : List (Nat × AV)) : keep T [] = [] := rfl
theorem keep_cons (T : List (Nat × AV)) (i : Nat) (l : List Nat) : keep T (i :: l) = match look T i with
    | some v => (i, v) :: keep T l
    | none => keep T l := rfl
theorem sk_normal (s : St) (k : St → Out) : sk (some (.normal, s)) k = k s := rfl
theorem sk_exit (i : Nat) (s : St) (k : St → Out) : sk (some (.exit i, s)) k = some (.exit i, s) := rfl
theorem sk_ret (s : St) (k : St → Out) : sk (some (.ret, s)) k = some (.ret, s) := rfl
theorem sk_none (k : St → Out) : sk none k = none := rfl
theorem sk_ite (c : Prop) [Decidable c] (a b : Out) (k : St → Out) : sk (if c then a else b) k = if c then sk a k else sk b k := by split <;> rfl
theorem kpN_normal (lv : List Nat) (s : St) : kpN lv (some (.normal, s)) = some (.normal, s.kp lv) := rfl
theorem kpN_exit (lv : List Nat) (i : Nat) (s : St) : kpN lv (some (.exit i, s)) = some (.exit i, s) := rfl
theorem kpN_ret (lv : List Nat) (s : St) : kpN lv (some (.ret, s)) = some (.ret, s) := rfl
theorem kpN_ite (lv : List Nat) (c : Prop) [Decidable c] (a b : Out) : kpN lv (if c then a else b) = if c then kpN lv a else kpN lv b := by split <;> rfl
theorem bk_normal (lv : List Nat) (id : Nat) (s : St) : bk lv id (some (.normal, s)) = some (.normal, s.kp lv) := rfl
theorem bk_exit (lv : List Nat) (id i : Nat) (s : St) : bk lv id (some (.exit i, s)) = if i = id then some (.normal, s.kp lv) else some (.exit i, s) := rfl
theorem bk_ret (lv : List Nat) (id : Nat) (s : St) : bk lv id (some (.ret, s)) = some (.ret, s) := rfl
theorem bk_ite (lv : List Nat) (id : Nat) (c : Prop) [Decidable c] (a b : Out) : bk lv id (if c then a else b) = if c then bk lv id a else bk lv id b := by split <;> rfl

end Go.AM
end

section
set_option linter.unusedSimpArgs false
set_option linter.unusedVariables false
set_option linter.constructorNameAsVariable false
namespace Go.AM
open Go

@[simp ↓] theorem ob_some' {α β : Type} (a : α) (k : α → Option β) : ob (some a) k = k a := rfl
@[simp ↓] theorem ob_none' {α β : Type} (k : α → Option β) : ob none k = none := rfl
@[simp ↓] theorem ob_ite {α β : Type} (c : Prop) [Decidable c] (x y : Option α) (k : α → Option β) : ob (if c then x else y) k = if c then ob x k else ob y k := by split <;> rfl
theorem ob_congr {α β : Type} {x x' : Option α} (hx : x = x') (k : α → Option β) : ob x k = ob x' k := by rw [hx]
attribute [congr] ob_congr

/-! ### Values, seen as such -/
def asB : AV → Option Bool
  | .g (.bool b) => some b
  | _ => none
def asI : AV → Option (IntKind × Int)
  | .g (.int k n) => some (k, n)
  | _ => none
def asS : AV → Option (List UInt8)
  | .g (.str b) => some b
  | _ => none
def asAgg : AV → Option (List AV)
  | .agg cs => some cs
  | _ => none
def asTup : AV → Option (List AV)
  | .tup cs => some cs
  | _ => none
def asCells : Option Blk → Option (List AV)
  | some (.cells cs) => some cs
  | some (.bld _ cs) => some cs
  | _ => none
def asBld : Option Blk → Option (TypeId × List AV)
  | some (.bld T cs) => some (T, cs)
  | _ => none
def asTrow : Option Blk → Option (TypeId × Nat × Nat × List (List GV))
  | some (.trow T sz g els) => some (T, sz, g, els)
  | _ => none
def asRows : Option Blk → Option (Nat × Nat × List (List GV))
  | some (.rows sz g els) => some (sz, g, els)
  | _ => none
@[simp] theorem asB_g (b : Bool) : asB (.g (.bool b)) = some b := by simp only [asB]
@[simp] theorem asI_g (k : IntKind) (n : Int) : asI (.g (.int k n)) = some (k, n) := by simp only [asI]
@[simp] theorem asS_g (b : List UInt8) : asS (.g (.str b)) = some b := by simp only [asS]
@[simp] theorem asAgg_g (cs : List AV) : asAgg (.agg cs) = some cs := by simp only [asAgg]
@[simp] theorem asTup_g (cs : List AV) : asTup (.tup cs) = some cs := by simp only [asTup]
@[simp] theorem asCells_g (cs : List AV) : asCells (some (.cells cs)) = some cs := by simp only [asCells]
@[simp] theorem asCells_b (T : TypeId) (cs : List AV) : asCells (some (.bld T cs)) = some cs := by simp only [asCells]
@[simp] theorem asBld_g (T : TypeId) (cs : List AV) : asBld (some (.bld T cs)) = some (T, cs) := by simp only [asBld]
@[simp] theorem asTrow_g (T : TypeId) (sz g : Nat) (els : List (List GV)) : asTrow (some (.trow T sz g els)) = some (T, sz, g, els) := by simp only [asTrow]
@[simp] theorem asRows_g (sz g : Nat) (els : List (List GV)) : asRows (some (.rows sz g els)) = some (sz, g, els) := by simp only [asRows]

def negIf (c b : Bool) : Bool := if c then !b else b
@[simp] theorem negIf_true (b : Bool) : negIf true b = !b := rfl
@[simp] theorem negIf_false (b : Bool) : negIf false b = b := rfl

/-! ### Arms that read -/
def faddrV (h : List Blk) (s : St) (off : Nat) : AV → Option (AV × List Nat)
  | .ptr id o => some (.ptr id (o + off), [])
  | .cp cs => some (.cp (cs.drop off), [])
  | .rp id g sz i o => if cur h s id g = true then some (.rp id g sz i (o + off), []) else none
  | _ => none
def iaddrV (h : List Blk) (s : St) (sz : Nat) : AV → Int → Option (AV × List Nat)
  | .g (.sl sz' els), n => if sz = sz' ∧ 0 ≤ n then ob (els[n.toNat]?) fun el => some (.cp el, []) else none
  | .ms id g sz' off len, n => if sz = sz' ∧ 0 ≤ n ∧ n < len ∧ cur h s id g = true then some (.rp id g sz (off + n.toNat) 0, []) else none
  | _, _ => none
def iaddrAV (len sz : Nat) : AV → Int → Option (AV × List Nat)
  | .ptr id o, n => if 0 ≤ n ∧ n < len then some (.ptr id (o + n.toNat * sz), []) else none
  | .cp cs, n => if 0 ≤ n ∧ n < len then some (.cp (cs.drop (n.toNat * sz)), []) else none
  | _, _ => none
def loadV (h : List Blk) (s : St) (agg : Bool) (n : Nat) : AV → Option (AV × List Nat)
  | .ptr id o => ob (asCells (getB h s id)) fun cs => ob (sub agg n ((cs.drop o).take n)) fun x => some (x, [id])
  | .cp cs => ob (sub agg n ((cs.take n).map .g)) fun x => some (x, [])
  | .rp id g sz i o => ob (asRows (getB h s id)) fun r => if g = r.2.1 ∧ sz = r.1 then ob (r.2.2[i]?) fun el => ob (sub agg n (((el.drop o).take n).map .g)) fun x => some (x, [id]) else none
  | _ => none
def slcV (h : List Blk) (s : St) (k : Nat) (lo hi : Option Opd) : AV → Option (AV × List Nat)
  | .g (.sl sz els) => if k = sz then ob (cutB s els.length lo hi) fun p => some (.g (.sl sz ((els.take p.2).drop p.1)), []) else none
  | .g .nsl => ob (cutB s 0 lo hi) fun p => some (.g .nsl, [])
  | .ms id g sz off len => if k = sz then ob (cutB s len lo hi) fun p => if cur h s id g = true then some (.ms id g sz (off + p.1) (p.2 - p.1), []) else none else none
  | _ => none
def nilchkV : AV → Option (AV × List Nat)
  | .ptr i o => some (.ptr i o, [])
  | .cp cs => some (.cp cs, [])
  | .fv f cs => some (.fv f cs, [])
  | .g (.fn f) => some (.g (.fn f), [])
  | .g (.ifc t v) => some (.g (.ifc t v), [])
  | .ifa t v => some (.ifa t v, [])
  | _ => none
def mkifV (t : TypeId) : AV → Option (AV × List Nat)
  | .g v => some (.g (.ifc t v), [])
  | .ptr i o => some (.ifa t (.ptr i o), [])
  | _ => none
def capV : AV → Option (AV × List Nat)
  | .g .nsl => some (.g (.int .i64 0), [])
  | _ => none
attribute [simp] faddrV iaddrV iaddrAV loadV slcV nilchkV mkifV capV

section
variable (h : List Blk) (s : St)
theorem armP_mov (x : Opd) : evP h s (.mov x) = ob (val s x) fun v => some (v, []) := by simp only [evP]; cases val s x <;> rfl
theorem armP_pick (c a b : Opd) : evP h s (.pick c a b) = ob (val s c) fun v => ob (asB v) fun x => if x = true then ob (val s a) (fun v => some (v, [])) else ob (val s b) fun v => some (v, []) := by
  simp only [evP]
  rcases val s c with _ | v
  · rfl
  · cases v <;> try rfl
    rename_i g; cases g <;> rfl
theorem armP_bin (op : BinOp) (x y : Opd) : evP h s (.bin op x y) = ob (val s x) fun a => ob (val s y) fun b => ob (binV op a b) fun v => some (v, []) := by
  simp only [evP]
  rcases val s x with _ | a
  · rfl
  · rcases val s y with _ | b
    · rfl
    · simp only [ob]; cases binV op a b <;> rfl
theorem armP_eqs (neq ag : Bool) (ks : List LK) (x y : Opd) : evP h s (.eqs neq ag ks x y) = ob (val s x) fun a => ob (val s y) fun b => ob (eqV ag ks a b) fun r => some (.g (.bool (negIf neq r)), []) := by
  simp only [evP]
  rcases val s x with _ | a
  · rfl
  · rcases val s y with _ | b
    · rfl
    · simp only [ob]; cases eqV ag ks a b <;> rfl
theorem armP_isnil (neq : Bool) (kd : Nat) (x : Opd) : evP h s (.isnil neq kd x) = ob (val s x) fun a => ob (isNil kd a) fun r => some (.g (.bool (negIf neq r)), []) := by
  simp only [evP]
  rcases val s x with _ | a
  · rfl
  · simp only [ob]; cases isNil kd a <;> rfl
theorem armP_isnilS (neq : Bool) (x : Opd) : evP h s (.isnilS neq x) = ob (val s x) fun a => ob (isNilS h s a) fun r => some (.g (.bool (negIf neq r)), []) := by
  simp only [evP]
  rcases val s x with _ | a
  · rfl
  · simp only [ob]; cases isNilS h s a <;> rfl
@[simp] theorem isNilS_nsl : isNilS h s (.g .nsl) = some true := by simp only [isNilS]
@[simp] theorem isNilS_sl (sz : Nat) (els : List (List GV)) : isNilS h s (.g (.sl sz els)) = some false := by simp only [isNilS]
@[simp] theorem isNilS_ms (id g a b c : Nat) : isNilS h s (.ms id g a b c) = if cur h s id g = true then some (g == 1) else none := by simp only [isNilS]
theorem armP_not (x : Opd) : evP h s (.un .not x) = ob (val s x) fun v => ob (asB v) fun b => some (.g (.bool (!b)), []) := by
  simp only [evP]
  rcases val s x with _ | v
  · rfl
  · cases v <;> try rfl
    rename_i g; cases g <;> rfl
theorem armP_neg (x : Opd) : evP h s (.un .neg x) = ob (val s x) fun v => ob (asI v) fun p => some (.g (.int p.1 (p.1.wrap (-p.2))), []) := by
  simp only [evP]
  rcases val s x with _ | v
  · rfl
  · cases v <;> try rfl
    rename_i g; cases g <;> rfl
theorem armP_conv (k : IntKind) (x : Opd) : evP h s (.conv k x) = ob (val s x) fun v => ob (asI v) fun p => some (.g (.int k (k.wrap p.2)), []) := by
  simp only [evP]
  rcases val s x with _ | v
  · rfl
  · cases v <;> try rfl
    rename_i g; cases g <;> rfl
theorem armP_convId (x : Opd) : evP h s (.convId x) = ob (val s x) fun v => ob (asS v) fun b => some (.g (.str b), []) := by
  simp only [evP]
  rcases val s x with _ | v
  · rfl
  · cases v <;> try rfl
    rename_i g; cases g <;> rfl
theorem armP_field (agg : Bool) (off n : Nat) (x : Opd) : evP h s (.field agg off n x) = ob (val s x) fun v => ob (asAgg v) fun cs => ob (sub agg n ((cs.drop off).take n)) fun v => some (v, []) := by
  simp only [evP]
  rcases val s x with _ | v
  · rfl
  · cases v <;> rfl
theorem armP_faddr (off : Nat) (x : Opd) : evP h s (.faddr off x) = ob (val s x) fun v => faddrV h s off v := by
  simp only [evP]
  rcases val s x with _ | v
  · rfl
  · cases v <;> rfl
theorem armP_iaddr (sz : Nat) (x i : Opd) : evP h s (.iaddr sz x i) = ob (val s x) fun v => ob (val s i) fun i => ob (asI i) fun p => iaddrV h s sz v p.2 := by
  simp only [evP]
  rcases val s x with _ | v
  · rfl
  · rcases val s i with _ | i
    · cases v <;> first | rfl | (rename_i g; cases g <;> rfl)
    · cases i with
      | g gi => cases gi with
        | int k n => cases v with
          | g gv => cases gv with
            | sl n els =>
              simp only [ob, asI, iaddrV]
              split
              · split <;> (rename_i hq; rw [hq])
              · rfl
            | _ => rfl
          | _ => rfl
        | _ => cases v <;> first | rfl | (rename_i g; cases g <;> rfl)
      | _ => cases v <;> first | rfl | (rename_i g; cases g <;> rfl)
theorem armP_iaddrA (len sz : Nat) (x i : Opd) : evP h s (.iaddrA len sz x i) = ob (val s x) fun v => ob (val s i) fun i => ob (asI i) fun p => iaddrAV len sz v p.2 := by
  simp only [evP]
  rcases val s x with _ | v
  · rfl
  · rcases val s i with _ | i
    · cases v <;> rfl
    · cases i with
      | g gi => cases gi with
        | int k n => cases v <;> rfl
        | _ => cases v <;> rfl
      | _ => cases v <;> rfl
theorem armP_index (x i : Opd) : evP h s (.index x i) = ob (val s x) fun v => ob (asS v) fun b => ob (val s i) fun i => ob (asI i) fun p => if 0 ≤ p.2 then ob (b[p.2.toNat]?) fun c => some (.g (.int .u8 c.toNat), []) else none := by
  simp only [evP]
  rcases val s x with _ | v
  · rfl
  · rcases val s i with _ | i
    · cases v <;> first | rfl | (rename_i g; cases g <;> rfl)
    · cases i with
      | g gi => cases gi with
        | int k n => cases v with
          | g gv => cases gv with
            | str b =>
              simp only [ob, asI, asS]
              split
              · split <;> (rename_i hq; rw [hq])
              · rfl
            | _ => rfl
          | _ => rfl
        | _ => cases v <;> first | rfl | (rename_i g; cases g <;> rfl)
      | _ => cases v <;> first | rfl | (rename_i g; cases g <;> rfl)
theorem armP_indexA (agg : Bool) (len sz : Nat) (x i : Opd) : evP h s (.indexA agg len sz x i) = ob (val s x) fun v => ob (asAgg v) fun cs => ob (val s i) fun i => ob (asI i) fun p => if 0 ≤ p.2 ∧ p.2 < len then ob (sub agg sz ((cs.drop (p.2.toNat * sz)).take sz)) fun v => some (v, []) else none := by
  simp only [evP]
  rcases val s x with _ | v
  · rfl
  · rcases val s i with _ | i
    · cases v <;> rfl
    · cases i with
      | g gi => cases gi with
        | int k n => cases v with
          | agg cs =>
              simp only [ob, asI, asAgg]
              split
              · cases sub agg sz ((cs.drop (n.toNat * sz)).take sz) <;> rfl
              · rfl
          | _ => rfl
        | _ => cases v <;> rfl
      | _ => cases v <;> rfl
theorem armP_load (agg : Bool) (n : Nat) (x : Opd) : evP h s (.load agg n x) = ob (val s x) fun v => loadV h s agg n v := by
  simp only [evP]
  rcases val s x with _ | v
  · rfl
  · cases v with
    | ptr id o =>
      simp only [ob, loadV]
      rcases getB h s id with _ | b
      · rfl
      · cases b with
        | cells cs => simp only [asCells]; cases sub agg n ((cs.drop o).take n) <;> rfl
        | bld T cs => simp only [asCells]; cases sub agg n ((cs.drop o).take n) <;> rfl
        | _ => rfl
    | cp cs => simp only [ob, loadV]; cases sub agg n ((cs.take n).map .g) <;> rfl
    | rp id g sz i o =>
      simp only [ob, loadV]
      rcases getB h s id with _ | b
      · rfl
      · cases b with
        | rows sz2 g2 els =>
          simp only [asRows]
          split
          · rcases els[i]? with _ | el
            · rfl
            · simp only; cases sub agg n (((el.drop o).take n).map .g) <;> rfl
          · rfl
        | _ => rfl
    | _ => rfl
theorem armP_ext (j : Nat) (x : Opd) : evP h s (.ext j x) = ob (val s x) fun v => ob (asTup v) fun vs => ob (vs[j]?) fun v => some (v, []) := by
  simp only [evP]
  rcases val s x with _ | v
  · rfl
  · cases v with
    | tup vs => simp only [ob, asTup]; cases vs[j]? <;> rfl
    | _ => rfl
theorem armP_len (x : Opd) : evP h s (.len x) = ob (val s x) fun v => ob (lenV h s v) fun n => some (.g (.int .i64 n), []) := by
  simp only [evP]
  rcases val s x with _ | v
  · rfl
  · simp only [ob]; cases lenV h s v <;> rfl
theorem armP_lenS (x : Opd) : evP h s (.lenS x) = ob (val s x) fun v => ob (asS v) fun b => some (.g (.int .i64 b.length), []) := by
  simp only [evP]
  rcases val s x with _ | v
  · rfl
  · cases v <;> first | rfl | (rename_i g; cases g <;> rfl)
theorem armP_cap (x : Opd) : evP h s (.cap x) = ob (val s x) fun v => capV v := by
  simp only [evP]
  rcases val s x with _ | v
  · rfl
  · cases v <;> first | rfl | (rename_i g; cases g <;> rfl)
theorem armP_mx (x : Opd) (xs : List Opd) : evP h s (.mx x xs) = ob (vals s xs) fun vs => ob (foldV mx2 (val s x) vs) fun v => some (v, []) := by
  simp only [evP]
  rcases vals s xs with _ | v
  · rfl
  · simp only [ob]; cases foldV mx2 (val s x) v <;> rfl
theorem armP_mn (x : Opd) (xs : List Opd) : evP h s (.mn x xs) = ob (vals s xs) fun vs => ob (foldV mn2 (val s x) vs) fun v => some (v, []) := by
  simp only [evP]
  rcases vals s xs with _ | v
  · rfl
  · simp only [ob]; cases foldV mn2 (val s x) v <;> rfl
theorem armP_build (z : List AV) (ps : List (Nat × Nat × Opd)) : evP h s (.build z ps) = ob (fills s z ps) fun cs => some (.agg cs, []) := by
  simp only [evP]; cases fills s z ps <;> rfl
theorem armP_slc (sz : Nat) (x : Opd) (lo hi : Option Opd) : evP h s (.slc sz x lo hi) = ob (val s x) fun v => slcV h s sz lo hi v := by
  simp only [evP]
  rcases val s x with _ | v
  · rfl
  · cases v with
    | g gv => cases gv with
      | sl n els =>
        simp only [ob, slcV]
        split
        · rcases cutB s els.length lo hi with _ | ⟨a, b⟩ <;> rfl
        · rfl
      | nsl => simp only [ob, slcV]; cases cutB s 0 lo hi <;> rfl
      | _ => rfl
    | ms id g sz2 off len =>
      simp only [ob, slcV]
      split
      · rcases cutB s len lo hi with _ | ⟨a, b⟩ <;> rfl
      · rfl
    | _ => rfl
theorem armP_slcS (x : Opd) (lo hi : Option Opd) : evP h s (.slcS x lo hi) = ob (val s x) fun v => ob (asS v) fun b => ob (cutB s b.length lo hi) fun p => some (.g (.str ((b.take p.2).drop p.1)), []) := by
  simp only [evP]
  rcases val s x with _ | v
  · rfl
  · cases v with
    | g gv => cases gv with
      | str b =>
        simp only [ob, asS]
        rcases cutB s b.length lo hi with _ | ⟨a, b⟩ <;> rfl
      | _ => rfl
    | _ => rfl
theorem armP_mkif (t : TypeId) (x : Opd) : evP h s (.mkif t x) = ob (val s x) fun v => mkifV t v := by
  simp only [evP]
  rcases val s x with _ | v
  · rfl
  · cases v <;> rfl
theorem armP_mkfn0 (f : FuncId) : evP h s (.mkfn f []) = some (.g (.fn f), []) := by simp only [evP]
theorem armP_mkfn (f : FuncId) (x : Opd) (xs : List Opd) : evP h s (.mkfn f (x :: xs)) = ob (vals s (x :: xs)) fun vs => some (.fv f vs, []) := by
  simp only [evP]; cases vals s (x :: xs) <;> rfl
theorem armP_mkbv (f : FuncId) (xs : List Opd) : evP h s (.mkbv f xs) = ob (vals s xs) fun vs => some (.bv f vs, []) := by
  simp only [evP]; cases vals s xs <;> rfl
theorem armP_mkvia (t : TypeId) (path : List FieldStep) (f : FuncId) (p : Bool) : evP h s (.mkvia t path f p) = some (.via t path f p, []) := by simp only [evP]
theorem armP_nilchk (x : Opd) : evP h s (.nilchk x) = ob (val s x) fun v => nilchkV v := by
  simp only [evP]
  rcases val s x with _ | v
  · rfl
  · cases v <;> first | rfl | (rename_i g; cases g <;> rfl)

theorem val_t (n : Nat) : val s (.t n) = look s.t n := by simp only [val]
theorem val_c (v : AV) : val s (.c v) = some v := by simp only [val]
theorem vals_nil : vals s [] = some [] := by simp only [vals]
theorem vals_cons (x : Opd) (xs : List Opd) : vals s (x :: xs) = ob (val s x) fun v => ob (vals s xs) fun vs => some (v :: vs) := by
  simp only [vals]; cases val s x <;> cases vals s xs <;> rfl
end
attribute [simp] armP_mov armP_pick armP_bin armP_eqs armP_isnil armP_isnilS armP_not armP_neg armP_conv armP_convId armP_field armP_faddr armP_iaddr armP_iaddrA armP_index armP_indexA armP_load armP_ext armP_len armP_lenS armP_cap armP_mx armP_mn armP_build armP_slc armP_slcS armP_mkif armP_mkfn0 armP_mkfn armP_mkbv armP_mkvia armP_nilchk
attribute [simp] val_t val_c vals_nil vals_cons

/-! ### Arms that act -/
def appTB (e : TypeId) (h : List Blk) (s : St) (b : List UInt8) : AV → Option (AV × St × List Nat)
  | .ms id g sz off len => if isTrow h s id = true then (if sz = 1 then appTV e h s 1 1 id g off len (bytesG b) else none) else appV h s 1 1 (.ms id g sz off len) (bytesG b)
  | x => appV h s 1 1 x (bytesG b)
def toUV (h : List Blk) (s : St) : AV → Option (AV × St × List Nat)
  | .ptr id o => ob (asBld (getB h s id)) fun p => if o < p.2.length then some (.ptr id o, s, []) else none
  | _ => none
def fromUV (ts : List (TypeId × Nat)) (h : List Blk) (s : St) : AV → Option (AV × St × List Nat)
  | .ptr id o => ob (asBld (getB h s id)) fun p => if o = 0 ∧ ts.contains (p.1, p.2.length) = true then some (.ptr id o, s, []) else none
  | _ => none
def sdataV (h : List Blk) (s : St) : AV → Option (AV × St × List Nat)
  | .ms id g sz off len => if cur h s id g = true then (if g = 1 then some (.g .nptr, s, []) else if 0 < len then some (.rp id g sz off 0, s, []) else none) else none
  | _ => none
def asMap : Option Blk → Option (List (GV × Option GV))
  | some (.map es) => some es
  | _ => none
def mgetA (cm : Bool) (kk : LK) (z : Option GV) (h : List Blk) (s : St) : AV → AV → Option (AV × St × List Nat)
  | .mp id, .g kv => ob (asMap (getB h s id)) fun es => ob (mgetV cm kk z kv es) fun r => some (r, s, [])
  | _, _ => none
def msetA (kk : LK) (h : List Blk) (s : St) : AV → AV → AV → Option (AV × St × List Nat)
  | .mp id, .g kv, v => ob (asMap (getB h s id)) fun es => ob (mvG v) fun g => ob (msetV kk kv g es) fun es' => some (.undef, setB h s id (.map es'), [id])
  | _, _, _ => none
attribute [simp] asMap mgetA msetA mvG mvV
def neqpV (s : St) : AV → AV → Option (AV × St × List Nat)
  | .ptr id o, .ptr id' o' => if id = id' ∧ o = o' then some (.g (.bool false), s, []) else none
  | _, _ => none
def ustrV (e : TypeId) (h : List Blk) (s : St) : AV → AV → Option (AV × St × List Nat)
  | .g .nptr, .g (.int .i64 n) => if n = 0 then some (.g (.str []), s, []) else none
  | .rp id g _ i o, .g (.int .i64 n) => ob (asTrow (getB h s id)) fun r => if g = r.2.2.1 ∧ r.2.1 = 1 ∧ i = 0 ∧ o = 0 ∧ 0 < n ∧ n ≤ r.2.2.2.length ∧ n ≤ 9223372036854775807 ∧ r.1 = e then
      ob (evI.bytesOfG (r.2.2.2.take n.toNat)) fun b => some (.g (.str b), setB h s id (.fro 1 g r.2.2.2), [id]) else none
  | _, _ => none
attribute [simp] appTB toUV fromUV sdataV neqpV ustrV isTrow
section
variable (h : List Blk) (nb : Nat) (s : St)
theorem armI_nres (sz : Nat) : evI h nb s (.nres sz) = some (.ms (s.next h) 1 sz 0 0, s.push (.rows sz 1 []), []) := by simp only [evI]
theorem armI_mk0 (sz : Nat) : evI h nb s (.mk0 sz) = some (.ms (s.next h) 2 sz 0 0, s.push (.rows sz 2 []), []) := by simp only [evI]
theorem armI_alloc (z : List Z) : evI h nb s (.alloc z) = some (.ptr (s.next h + (zres (s.next h) z).2.length) 0, { s with o := s.o ++ (zres (s.next h) z).2 ++ [.cells (zres (s.next h) z).1] }, []) := by simp only [evI]
theorem armI_allocT (T e : TypeId) (z : List Z) : evI h nb s (.allocT T e z) = some (.ptr (s.next h + (zresT e (s.next h) z).2.length) 0, { s with o := s.o ++ (zresT e (s.next h) z).2 ++ [.bld T (zresT e (s.next h) z).1] }, []) := by simp only [evI]
theorem armI_appT (e : TypeId) (x y : Opd) : evI h nb s (.appT e x y) = ob (val s x) fun x => ob (val s y) fun y => ob (asS y) fun b => appTB e h s b x := by
  simp only [evI]
  rcases val s x with _ | x
  · rfl
  · rcases val s y with _ | y
    · rfl
    · cases y <;> first | rfl | (rename_i g; cases g <;> first | rfl | (cases x <;> rfl))
theorem armI_toU (x : Opd) : evI h nb s (.toU x) = ob (val s x) fun v => toUV h s v := by
  simp only [evI]
  rcases val s x with _ | x
  · rfl
  · cases x with
    | ptr id o =>
      simp only [ob, toUV]
      rcases getB h s id with _ | b
      · rfl
      · cases b <;> rfl
    | _ => rfl
theorem armI_fromU (ts : List (TypeId × Nat)) (x : Opd) : evI h nb s (.fromU ts x) = ob (val s x) fun v => fromUV ts h s v := by
  simp only [evI]
  rcases val s x with _ | x
  · rfl
  · cases x with
    | ptr id o =>
      simp only [ob, fromUV]
      rcases getB h s id with _ | b
      · rfl
      · cases b <;> rfl
    | _ => rfl
theorem armI_sdata (x : Opd) : evI h nb s (.sdata x) = ob (val s x) fun v => sdataV h s v := by
  simp only [evI]
  rcases val s x with _ | x
  · rfl
  · cases x <;> rfl
theorem armI_mkmap : evI h nb s .mkmap = some (.mp (s.next h), s.push (.map []), []) := by simp only [evI]
theorem armI_mget (cm : Bool) (kk : LK) (z : Option GV) (x k : Opd) : evI h nb s (.mget cm kk z x k) = ob (val s x) fun a => ob (val s k) fun b => mgetA cm kk z h s a b := by
  simp only [evI]
  rcases val s x with _ | x
  · rfl
  · rcases val s k with _ | k
    · cases x <;> rfl
    · cases x <;> try rfl
      rename_i id
      cases k <;> try rfl
      rename_i kv
      simp only [ob, mgetA]
      rcases getB h s id with _ | b
      · rfl
      · cases b <;> try rfl
        rename_i es
        simp only [asMap]
        rcases mgetV cm kk z kv es with _ | r <;> rfl
theorem armI_mset (kk : LK) (x k v : Opd) : evI h nb s (.mset kk x k v) = ob (val s x) fun a => ob (val s k) fun b => ob (val s v) fun c => msetA kk h s a b c := by
  simp only [evI]
  rcases val s x with _ | x
  · rfl
  · rcases val s k with _ | k
    · cases x <;> rfl
    · rcases val s v with _ | v
      · cases x <;> try rfl
        cases k <;> rfl
      · cases x <;> try rfl
        rename_i id
        cases k <;> try rfl
        rename_i kv
        simp only [ob, msetA]
        rcases getB h s id with _ | b
        · rfl
        · cases b <;> try rfl
          rename_i es
          simp only [asMap]
          rcases mvG v with _ | g
          · rfl
          · simp only
            rcases msetV kk kv g es with _ | es' <;> rfl
theorem armI_neqp (x y : Opd) : evI h nb s (.neqp x y) = ob (val s x) fun a => ob (val s y) fun b => neqpV s a b := by
  simp only [evI]
  rcases val s x with _ | x
  · rfl
  · rcases val s y with _ | y
    · cases x <;> rfl
    · cases x <;> cases y <;> rfl
theorem armI_ustr (e : TypeId) (x y : Opd) : evI h nb s (.ustr e x y) = ob (val s x) fun a => ob (val s y) fun b => ustrV e h s a b := by
  simp only [evI]
  rcases val s x with _ | x
  · rfl
  · rcases val s y with _ | y
    · cases x <;> first | rfl | (rename_i g; cases g <;> rfl)
    · cases x with
      | g v =>
        cases v with
        | nptr => cases y <;> first | rfl | (rename_i g; cases g <;> first | rfl | (rename_i k n; cases k <;> rfl))
        | _ => rfl
      | rp id g sz i o =>
        cases y with
        | g v =>
          cases v with
          | int k n =>
            cases k with
            | i64 =>
              simp only [ob, ustrV]
              rcases getB h s id with _ | b
              · rfl
              · cases b with
                | trow T sz2 g' els =>
                  simp only [asTrow]
                  split
                  · cases evI.bytesOfG (els.take n.toNat) <;> rfl
                  · rfl
                | _ => rfl
            | _ => rfl
          | _ => rfl
        | _ => rfl
      | _ => rfl
theorem armI_allocAt (k : Nat) (z : List Z) : evI h nb s (.allocAt k z) = match getB h s (nb + k) with
    | some .pend => if h.length ≤ nb then some (.ptr (nb + k) 0, setB h s (nb + k) (.cells (zplain z)), [nb + k]) else none
    | _ => none := by simp only [evI]; rfl
theorem armI_box (x : Opd) : evI h nb s (.box x) = ob (val s x) fun v => ob v.cellsO fun cs => some (.ptr (s.next h) 0, s.push (.cells cs), []) := by
  simp only [evI]
  rcases val s x with _ | v
  · rfl
  · simp only [ob]; cases v.cellsO <;> rfl
theorem armI_bslice (sz len : Nat) (z : List GV) (ps : List (Nat × Nat × Opd)) : evI h nb s (.bslice sz len z ps) = ob (fills s (List.replicate len (z.map AV.g)).flatten ps) fun cs => ob (grounds cs) fun gs => some (.g (.sl sz (chunk sz len gs)), s, []) := by
  simp only [evI]
  rcases fills s (List.replicate len (z.map AV.g)).flatten ps with _ | v
  · rfl
  · simp only [ob]; cases grounds v <;> rfl
theorem armI_store (n : Nat) (p x : Opd) : evI h nb s (.store n p x) = ob (val s p) fun p => ob (val s x) fun v => ob v.cellsO fun vs => if vs.length = n then ob (storeV h s p vs) fun r => some (.undef, r.1, r.2) else none := by
  simp only [evI]
  rcases val s p with _ | p
  · rfl
  · rcases val s x with _ | v
    · rfl
    · simp only [ob]
      rcases v.cellsO with _ | vs
      · rfl
      · simp only
        split
        · cases storeV h s p vs <;> rfl
        · rfl
theorem armI_mk (sz bytes : Nat) (z : List GV) (l c : Opd) : evI h nb s (.mk sz bytes z l c) = match val s l, val s c with
    | some (.g (.int .i64 n)), some (.g (.int .i64 m)) => if n = m ∧ 0 ≤ n ∧ n ≤ 281474976710656 ∧ n * bytes ≤ 281474976710656 then
        some (.ms (s.next h) 2 sz 0 n.toNat, s.push (.rows sz 2 (List.replicate n.toNat z)), []) else none
    | _, _ => none := by simp only [evI]; rfl
theorem armI_app (sz bytes : Nat) (x y : Opd) : evI h nb s (.app sz bytes x y) = ob (val s x) fun x => ob (val s y) fun y => ob (viewN h s sz y) fun ys => appV h s sz bytes x ys := by
  simp only [evI]
  rcases val s x with _ | x
  · rfl
  · rcases val s y with _ | y
    · rfl
    · simp only [ob]; cases viewN h s sz y <;> rfl
theorem armI_appS (x y : Opd) : evI h nb s (.appS x y) = ob (val s x) fun x => ob (val s y) fun y => ob (asS y) fun b => appV h s 1 1 x (bytesG b) := by
  simp only [evI]
  rcases val s x with _ | x
  · rfl
  · rcases val s y with _ | y
    · rfl
    · cases y <;> first | rfl | (rename_i g; cases g <;> rfl)
theorem armI_appZ (sz bytes : Nat) (z : List GV) (x n : Opd) : evI h nb s (.appZ sz bytes z x n) = match val s x, val s n with
    | some x, some (.g (.int .i64 n)) => if 0 ≤ n ∧ n ≤ 281474976710656 ∧ n * bytes ≤ 281474976710656 then appV h s sz bytes x (List.replicate n.toNat z) else none
    | _, _ => none := by simp only [evI]; rfl
theorem armI_clear (z : List GV) (x : Opd) : evI h nb s (.clear z x) = match val s x with
    | some (.g .nsl) => some (.tup [], s, [])
    | some (.ms id g sz off len) => match getB h s id with
      | some (.rows sz' g' els) => if g = g' ∧ sz = sz' ∧ sz = z.length ∧ off + len ≤ els.length then
          some (.tup [], setB h s id (.rows sz g (els.take off ++ (List.replicate len z ++ els.drop (off + len)))), [id]) else none
      | _ => none
    | _ => none := by simp only [evI]; rfl
theorem armI_convSB (x : Opd) : evI h nb s (.convSB x) = ob (val s x) fun v => ob (asS v) fun b => some (.g (.sl 1 (bytesG b)), s, []) := by
  simp only [evI]
  rcases val s x with _ | v
  · rfl
  · cases v <;> first | rfl | (rename_i g; cases g <;> rfl)
theorem armI_convBS (x : Opd) : evI h nb s (.convBS x) = ob (val s x) fun v => ob (viewN h s 1 v) fun els => ob (evI.bytesOfG els) fun b => some (.g (.str b), s, []) := by
  simp only [evI]
  rcases val s x with _ | v
  · rfl
  · simp only [ob]
    rcases viewN h s 1 v with _ | els
    · rfl
    · simp only; cases evI.bytesOfG els <;> rfl
end
attribute [simp] armI_allocT armI_appT armI_toU armI_fromU armI_sdata armI_neqp armI_mkmap armI_mget armI_mset armI_ustr armI_nres armI_mk0 armI_alloc armI_allocAt armI_box armI_bslice armI_store armI_mk armI_app armI_appS armI_appZ armI_clear armI_convSB armI_convBS evI.bytesOfG
end Go.AM
end

section
set_option linter.unusedSimpArgs false
set_option linter.unusedVariables false
namespace Go.AM
open Go

@[simp ↓] theorem omap_ite {α β : Type} (c : Prop) [Decidable c] (x y : Option α) (f : α → β) : Option.map f (if c then x else y) = if c then Option.map f x else Option.map f y := by split <;> rfl

/-- A loop by its body. -/
noncomputable def loopE (E : FnS) (h : List Blk) (c : IC) (lv : List Nat) (s : St) : Out := loopL (fun s => evCode E h c s) lv s

theorem loopE_eq (E : FnS) (h : List Blk) (c : IC) (lv : List Nat) (s : St) : loopE E h c lv s = sk (evCode E h c s) fun s' => loopE E h c lv (s'.kp lv) := loopL_eq _ lv s

theorem loopE_step {c c' : IC} (hc : c = c') (E : FnS) (h : List Blk) (lv : List Nat) (s : St) : loopE E h c lv s = sk (evCode E h c' s) fun s' => loopE E h c lv (s'.kp lv) := by
  rw [← hc]; exact loopE_eq E h c lv s

section
variable (E : FnS) (h : List Blk) (s : St)
@[simp] theorem evCode_skip : evCode E h .skip s = some (.normal, s) := by simp only [evCode]
@[simp] theorem evCode_exit (id : Nat) : evCode E h (.exit id) s = some (.exit id, s) := by simp only [evCode]
@[simp] theorem evCode_ret : evCode E h .ret s = some (.ret, s) := by simp only [evCode]
@[simp] theorem evCode_reg (lv : List Nat) (ops : List AOper) : evCode E h (.reg lv ops) s = ob (evOps E h ops s) fun s => some (.normal, s.kp lv) := by
  simp only [evCode]; cases evOps E h ops s <;> rfl
@[simp] theorem evCode_drw (lv : List Nat) (nb : Nat) (t : Tree) : evCode E h (.drw lv nb t) s = ob (evLead E h (h.length + s.o.length) lv [] t (pends s nb)) fun s => some (.normal, s) := by
  simp only [evCode]; cases evLead E h (h.length + s.o.length) lv [] t (pends s nb) <;> rfl
@[simp] theorem evCode_seq (a b : IC) : evCode E h (.seq a b) s = sk (evCode E h a s) fun s => evCode E h b s := by simp only [evCode]
@[simp] theorem evCode_cond (lv : List Nat) (c : Opd) (a b : IC) : evCode E h (.cond lv c a b) s = ob (val s c) fun v => ob (asB v) fun x => kpN lv (if x = true then evCode E h a s else evCode E h b s) := by
  simp only [evCode]
  rcases val s c with _ | v
  · rfl
  · cases v <;> first | rfl | (rename_i g; cases g <;> rfl)
@[simp] theorem evCode_block (lv : List Nat) (id : Nat) (c : IC) : evCode E h (.block lv id c) s = bk lv id (evCode E h c s) := by simp only [evCode]
@[simp] theorem evCode_loop (lv l2 : List Nat) (c : IC) : evCode E h (.loop lv l2 c) s = loopE E h c lv (s.kp lv) := by simp only [evCode, loopE]
end

attribute [simp ↓] sk_normal sk_exit sk_ret sk_none sk_ite kpN_normal kpN_exit kpN_ret kpN_ite bk_normal bk_exit bk_ret bk_ite

/-- Where a guard says so. -/
def gdA {α : Type} (s : St) (g : Nat) (b : Bool) (yes no : St → Option α) : AV → Option α
  | .g (.bool x) => if x = b then yes (s.put (some g) (.g (.bool b))) else no (s.put (some g) (.g (.bool (!b))))
  | .undef => no s
  | _ => none
@[simp ↓] theorem gdA_bool {α : Type} (s : St) (g : Nat) (b : Bool) (yes no : St → Option α) (x : Bool) : gdA s g b yes no (.g (.bool x)) = if x = b then yes (s.put (some g) (.g (.bool b))) else no (s.put (some g) (.g (.bool (!b)))) := rfl
@[simp ↓] theorem gdA_undef {α : Type} (s : St) (g : Nat) (b : Bool) (yes no : St → Option α) : gdA s g b yes no .undef = no s := rfl
theorem gdo_some {α : Type} (s : St) (g : Nat) (b : Bool) (yes no : St → Option α) : gdo s (some (g, b)) yes no = ob (look s.t g) fun v => gdA s g b yes no v := by
  unfold gdo
  simp only
  rcases look s.t g with _ | v
  · rfl
  · cases v <;> first | rfl | (rename_i g; cases g <;> rfl)

section
variable (E : FnS) (h : List Blk) (nb : Nat) (hd : List Nat) (s : St)
theorem evOps_nil : evOps E h [] s = some s := by simp only [evOps]
theorem evOps_cons (o : AOper) (r : List AOper) : evOps E h (o :: r) s = ob (evOne E h 0 [] s o) fun p => evOps E h r p.1 := by simp only [evOps]
theorem evOne_none (d : Option Nat) (op : AOp) : evOne E h nb hd s ⟨d, none, op⟩ = ob (exOp E h nb hd s op) fun p => some (p.2.1.put d p.1, p.2.2) := by simp only [evOne, gdo]
theorem evOne_some (d : Option Nat) (g : Nat) (b : Bool) (op : AOp) : evOne E h nb hd s ⟨d, some (g, b), op⟩ =
    ob (look s.t g) fun v => gdA s g b (fun s => ob (exOp E h nb hd s op) fun p => some (p.2.1.put d p.1, p.2.2)) (fun s => some (s.put d .undef, [])) v := by simp only [evOne, gdo_some]
theorem evTake_none (d : Option Nat) (op : AOp) : evTake h s ⟨d, none, op⟩ = ob (evP h s op) fun p => some (s.put d p.1, p.2) := by simp only [evTake, gdo]
theorem evTake_some (d : Option Nat) (g : Nat) (b : Bool) (op : AOp) : evTake h s ⟨d, some (g, b), op⟩ =
    ob (look s.t g) fun v => gdA s g b (fun s => ob (evP h s op) fun p => some (s.put d p.1, p.2)) (fun s => some (s.put d .undef, [])) v := by simp only [evTake, gdo_some]
end
attribute [simp] evOps_nil evOps_cons evOne_none evOne_some evTake_none evTake_some

theorem put_some (s : St) (d : Nat) (v : AV) : s.put (some d) v = ⟨(d, v) :: s.t, s.m, s.o⟩ := rfl
theorem put_none (s : St) (v : AV) : s.put none v = s := rfl
theorem kp_mk (t : List (Nat × AV)) (m : List (Nat × Blk)) (o : List Blk) (lv : List Nat) : St.kp ⟨t, m, o⟩ lv = ⟨keep t lv, m, o⟩ := rfl
def consO : Option AV → Nat → List (Nat × AV) → List (Nat × AV)
  | some v, i, r => (i, v) :: r
  | none, _, r => r
theorem consO_some (v : AV) (i : Nat) (r : List (Nat × AV)) : consO (some v) i r = (i, v) :: r := rfl
theorem consO_none (i : Nat) (r : List (Nat × AV)) : consO none i r = r := rfl
theorem keep_consO (T : List (Nat × AV)) (i : Nat) (l : List Nat) : keep T (i :: l) = consO (look T i) i (keep T l) := by
  rw [keep_cons]; cases look T i <;> rfl
theorem initT_nil (k : Nat) : initT k [] = [] := by simp only [initT]
theorem initT_cons (k : Nat) (a : AV) (r : List AV) : initT k (a :: r) = (k, a) :: initT (k + 1) r := by simp only [initT]
attribute [simp] put_some put_none kp_mk consO_some consO_none keep_consO keep_nil initT_nil initT_cons look_nil look_cons

section
variable (h : List Blk) (s : St)
theorem rvVs_nil : rvVs h s [] = some [] := by simp only [rvVs]
theorem rvVs_cons (x : RV) (xs : List RV) : rvVs h s (x :: xs) = ob (rvV h s x) fun v => ob (rvVs h s xs) fun vs => some (v :: vs) := by
  simp only [rvVs]; cases rvV h s x <;> cases rvVs h s xs <;> rfl
theorem rvV_tmp (t : Nat) : rvV h s (.tmp t) = look s.t t := by simp only [rvV]
theorem rvV_cell (t : Nat) (agg : Bool) (n : Nat) : rvV h s (.cell t agg n) = ob (evP h s (.load agg n (.t t))) fun p => some p.1 := by
  simp only [rvV]; rcases evP h s (.load agg n (.t t)) with _ | ⟨a, b⟩ <;> rfl
theorem frz1_nil : frz1 h s [] = some [] := by simp only [frz1]
theorem frz1_cons (v : AV) (r : List AV) : frz1 h s (v :: r) = ob (frz0 h s v) fun v => ob (frz1 h s r) fun r => some (v :: r) := by
  simp only [frz1]; cases frz0 h s v <;> cases frz1 h s r <;> rfl
theorem frz3_nil : frz3 h s [] = some [] := by simp only [frz3]
theorem frz3_cons (v : AV) (r : List AV) : frz3 h s (v :: r) = ob (frz2 h s v) fun v => ob (frz3 h s r) fun r => some (v :: r) := by
  simp only [frz3]; cases frz2 h s v <;> cases frz3 h s r <;> rfl
end
attribute [simp] rvVs_nil rvVs_cons rvV_tmp rvV_cell frz1_nil frz1_cons frz3_nil frz3_cons

@[simp ↓] theorem kpN_none (lv : List Nat) : kpN lv none = none := rfl
@[simp ↓] theorem bk_none (lv : List Nat) (id : Nat) : bk lv id none = none := rfl
/-- How a function's code ends. -/
def finE (H : List Blk) (rs : List RV) (esc : Bool) (s : St) : Option Res :=
  ob (rvVs H s rs) fun vs => if esc = true then some ⟨tupV vs, s.m, s.o⟩ else
    ob (frz3 H s vs) fun vs => if (s.m.all fun p => p.2.lt1 H.length) = true then some ⟨tupV vs, s.m, []⟩ else none

def fnEnd (H : List Blk) (rs : List RV) (esc : Bool) (r : Out) : Option Res :=
  match r with
  | some (.ret, s) => finE H rs esc s
  | some (.normal, s) => finE H rs esc s
  | _ => none
@[simp ↓] theorem fnEnd_ret (H : List Blk) (rs : List RV) (esc : Bool) (s : St) : fnEnd H rs esc (some (.ret, s)) = finE H rs esc s := rfl
@[simp ↓] theorem fnEnd_normal (H : List Blk) (rs : List RV) (esc : Bool) (s : St) : fnEnd H rs esc (some (.normal, s)) = finE H rs esc s := rfl
@[simp ↓] theorem fnEnd_none (H : List Blk) (rs : List RV) (esc : Bool) : fnEnd H rs esc none = none := rfl
@[simp ↓] theorem fnEnd_ite (H : List Blk) (rs : List RV) (esc : Bool) (c : Prop) [Decidable c] (a b : Out) : fnEnd H rs esc (if c then a else b) = if c then fnEnd H rs esc a else fnEnd H rs esc b := by split <;> rfl
attribute [simp] finE

theorem finish_finE (H : List Blk) (F : IFunc) (s : St) : finish H F s = finE H F.rs F.esc s := by
  unfold finish finE
  cases rvVs H s F.rs with
  | none => rfl
  | some vs =>
    simp only [ob_some']
    split
    · rfl
    · cases frz3 H s vs <;> rfl

theorem evBody_end (E : FnS) (F : IFunc) (args : List AV) (H : List Blk) (hl : args.length ≤ F.nt) : evBody E F args H = fnEnd H F.rs F.esc (evCode E H F.body ⟨initT 0 args, [], []⟩) := by
  unfold evBody fnEnd
  rw [if_pos hl]
  rcases evCode E H F.body ⟨initT 0 args, [], []⟩ with _ | ⟨e, s⟩
  · rfl
  · cases e
    · exact finish_finE H F s
    · rfl
    · exact finish_finE H F s

/-- The beginning of a function's walk. -/
theorem EvF_walk {T : Tab} {f : FuncId} {np nt : Nat} {rs : List RV} {esc : Bool} {c : IC} (hF : T.T f = some ⟨np, nt, rs, esc, c⟩) {args : List AV} {H : List Blk} {r : Res} (hl : args.length ≤ nt)
    (h : fnEnd H rs esc (evCode (EvF T) H c ⟨initT 0 args, [], []⟩) = some r) : EvF T f args H = some r :=
  EvF_body hF (by rw [evBody_end _ _ _ _ hl]; exact h)

/-! ### What simp looks into: the state, never the code, nor what comes behind -/
theorem sk_congr {r r' : Out} (hr : r = r') (k : St → Out) : sk r k = sk r' k := by rw [hr]
theorem fnEnd_congr {H : List Blk} {rs : List RV} {esc : Bool} {r r' : Out} (hr : r = r') : fnEnd H rs esc r = fnEnd H rs esc r' := by rw [hr]
theorem evCode_congr {E : FnS} {h : List Blk} {c : IC} {s s' : St} (hs : s = s') : evCode E h c s = evCode E h c s' := by rw [hs]
theorem evOps_congr {E : FnS} {h : List Blk} {ops : List AOper} {s s' : St} (hs : s = s') : evOps E h ops s = evOps E h ops s' := by rw [hs]
theorem evOne_congr {E : FnS} {h : List Blk} {nb : Nat} {hd : List Nat} {s s' : St} {o : AOper} (hs : s = s') : evOne E h nb hd s o = evOne E h nb hd s' o := by rw [hs]
theorem exOp_congr {E : FnS} {h : List Blk} {nb : Nat} {hd : List Nat} {s s' : St} {o : AOp} (hs : s = s') : exOp E h nb hd s o = exOp E h nb hd s' o := by rw [hs]
theorem evTake_congr {h : List Blk} {s s' : St} {o : AOper} (hs : s = s') : evTake h s o = evTake h s' o := by rw [hs]
theorem evP_congr {h : List Blk} {s s' : St} {o : AOp} (hs : s = s') : evP h s o = evP h s' o := by rw [hs]
theorem evI_congr {h : List Blk} {nb : Nat} {s s' : St} {o : AOp} (hs : s = s') : evI h nb s o = evI h nb s' o := by rw [hs]
theorem evLead_congr {E : FnS} {h : List Blk} {nb : Nat} {lv hd hd' : List Nat} {t : Tree} {s s' : St} (hh : hd = hd') (hs : s = s') : evLead E h nb lv hd t s = evLead E h nb lv hd' t s' := by rw [hs, hh]
theorem evTree_congr {E : FnS} {h : List Blk} {nb : Nat} {lv hd hd' : List Nat} {t : Tree} {s s' : St} (hh : hd = hd') (hs : s = s') : evTree E h nb lv hd t s = evTree E h nb lv hd' t s' := by rw [hs, hh]
theorem gdo_congr {α : Type} {s s' : St} {g : Option (Nat × Bool)} (hs : s = s') (yes no : St → Option α) : gdo s g yes no = gdo s' g yes no := by rw [hs]
theorem loopE_congr {E : FnS} {h : List Blk} {c : IC} {lv : List Nat} {s s' : St} (hs : s = s') : loopE E h c lv s = loopE E h c lv s' := by rw [hs]
attribute [congr] sk_congr fnEnd_congr evCode_congr evOps_congr evOne_congr exOp_congr evTake_congr evP_congr evI_congr evLead_congr evTree_congr gdo_congr loopE_congr

/-! ### One operation's arm at a time -/
section
variable (E : FnS) (h : List Blk) (nb : Nat) (hd : List Nat) (s : St)
theorem exOp_call (f : Opd) (xs : List Opd) : exOp E h nb hd s (.call f xs) = ob (AM.val s f) fun f => ob (AM.vals s xs) fun xs => evCall E h hd s f xs := by
  simp only [exOp]; cases AM.val s f <;> cases AM.vals s xs <;> rfl
theorem exOp_mov (x : Opd) : exOp E h nb hd s (.mov x) = ob (evP h s (.mov x)) fun p => some (p.1, s, []) := by simp only [exOp, AOp.acts]; rfl
theorem exOp_pick (c a b : Opd) : exOp E h nb hd s (.pick c a b) = ob (evP h s (.pick c a b)) fun p => some (p.1, s, []) := by simp only [exOp, AOp.acts]; rfl
theorem exOp_bin (op : BinOp) (x y : Opd) : exOp E h nb hd s (.bin op x y) = ob (evP h s (.bin op x y)) fun p => some (p.1, s, []) := by simp only [exOp, AOp.acts]; rfl
theorem exOp_eqs (neq agg : Bool) (ks : List LK) (x y : Opd) : exOp E h nb hd s (.eqs neq agg ks x y) = ob (evP h s (.eqs neq agg ks x y)) fun p => some (p.1, s, []) := by simp only [exOp, AOp.acts]; rfl
theorem exOp_isnil (neq : Bool) (kd : Nat) (x : Opd) : exOp E h nb hd s (.isnil neq kd x) = ob (evP h s (.isnil neq kd x)) fun p => some (p.1, s, []) := by simp only [exOp, AOp.acts]; rfl
theorem exOp_isnilS (neq : Bool) (x : Opd) : exOp E h nb hd s (.isnilS neq x) = ob (evP h s (.isnilS neq x)) fun p => some (p.1, s, []) := by simp only [exOp, AOp.acts]; rfl
theorem exOp_mk0 (sz : Nat) : exOp E h nb hd s (.mk0 sz) = evI h nb s (.mk0 sz) := by simp only [exOp, AOp.acts]; rfl
theorem exOp_un (op : UnOp) (x : Opd) : exOp E h nb hd s (.un op x) = ob (evP h s (.un op x)) fun p => some (p.1, s, []) := by simp only [exOp, AOp.acts]; rfl
theorem exOp_conv (k : IntKind) (x : Opd) : exOp E h nb hd s (.conv k x) = ob (evP h s (.conv k x)) fun p => some (p.1, s, []) := by simp only [exOp, AOp.acts]; rfl
theorem exOp_convId (x : Opd) : exOp E h nb hd s (.convId x) = ob (evP h s (.convId x)) fun p => some (p.1, s, []) := by simp only [exOp, AOp.acts]; rfl
theorem exOp_convBS (x : Opd) : exOp E h nb hd s (.convBS x) = evI h nb s (.convBS x) := by simp only [exOp, AOp.acts]; rfl
theorem exOp_field (agg : Bool) (off n : Nat) (x : Opd) : exOp E h nb hd s (.field agg off n x) = ob (evP h s (.field agg off n x)) fun p => some (p.1, s, []) := by simp only [exOp, AOp.acts]; rfl
theorem exOp_faddr (off : Nat) (p : Opd) : exOp E h nb hd s (.faddr off p) = ob (evP h s (.faddr off p)) fun p => some (p.1, s, []) := by simp only [exOp, AOp.acts]; rfl
theorem exOp_iaddr (sz : Nat) (x i : Opd) : exOp E h nb hd s (.iaddr sz x i) = ob (evP h s (.iaddr sz x i)) fun p => some (p.1, s, []) := by simp only [exOp, AOp.acts]; rfl
theorem exOp_iaddrA (len sz : Nat) (p i : Opd) : exOp E h nb hd s (.iaddrA len sz p i) = ob (evP h s (.iaddrA len sz p i)) fun p => some (p.1, s, []) := by simp only [exOp, AOp.acts]; rfl
theorem exOp_index (x i : Opd) : exOp E h nb hd s (.index x i) = ob (evP h s (.index x i)) fun p => some (p.1, s, []) := by simp only [exOp, AOp.acts]; rfl
theorem exOp_indexA (agg : Bool) (len sz : Nat) (x i : Opd) : exOp E h nb hd s (.indexA agg len sz x i) = ob (evP h s (.indexA agg len sz x i)) fun p => some (p.1, s, []) := by simp only [exOp, AOp.acts]; rfl
theorem exOp_load (agg : Bool) (n : Nat) (p : Opd) : exOp E h nb hd s (.load agg n p) = ob (evP h s (.load agg n p)) fun p => some (p.1, s, []) := by simp only [exOp, AOp.acts]; rfl
theorem exOp_ext (j : Nat) (x : Opd) : exOp E h nb hd s (.ext j x) = ob (evP h s (.ext j x)) fun p => some (p.1, s, []) := by simp only [exOp, AOp.acts]; rfl
theorem exOp_len (x : Opd) : exOp E h nb hd s (.len x) = ob (evP h s (.len x)) fun p => some (p.1, s, []) := by simp only [exOp, AOp.acts]; rfl
theorem exOp_lenS (x : Opd) : exOp E h nb hd s (.lenS x) = ob (evP h s (.lenS x)) fun p => some (p.1, s, []) := by simp only [exOp, AOp.acts]; rfl
theorem exOp_cap (x : Opd) : exOp E h nb hd s (.cap x) = ob (evP h s (.cap x)) fun p => some (p.1, s, []) := by simp only [exOp, AOp.acts]; rfl
theorem exOp_mx (x : Opd) (xs : List Opd) : exOp E h nb hd s (.mx x xs) = ob (evP h s (.mx x xs)) fun p => some (p.1, s, []) := by simp only [exOp, AOp.acts]; rfl
theorem exOp_mn (x : Opd) (xs : List Opd) : exOp E h nb hd s (.mn x xs) = ob (evP h s (.mn x xs)) fun p => some (p.1, s, []) := by simp only [exOp, AOp.acts]; rfl
theorem exOp_build (z : List AV) (ps : List (Nat × Nat × Opd)) : exOp E h nb hd s (.build z ps) = ob (evP h s (.build z ps)) fun p => some (p.1, s, []) := by simp only [exOp, AOp.acts]; rfl
theorem exOp_slc (sz : Nat) (x : Opd) (lo hi : Option Opd) : exOp E h nb hd s (.slc sz x lo hi) = ob (evP h s (.slc sz x lo hi)) fun p => some (p.1, s, []) := by simp only [exOp, AOp.acts]; rfl
theorem exOp_slc3 (sz : Nat) (x : Opd) (lo hi mx : Option Opd) : exOp E h nb hd s (.slc3 sz x lo hi mx) = ob (evP h s (.slc3 sz x lo hi mx)) fun p => some (p.1, s, []) := by simp only [exOp, AOp.acts]; rfl
theorem exOp_slcS (x : Opd) (lo hi : Option Opd) : exOp E h nb hd s (.slcS x lo hi) = ob (evP h s (.slcS x lo hi)) fun p => some (p.1, s, []) := by simp only [exOp, AOp.acts]; rfl
theorem exOp_mkif (t : TypeId) (x : Opd) : exOp E h nb hd s (.mkif t x) = ob (evP h s (.mkif t x)) fun p => some (p.1, s, []) := by simp only [exOp, AOp.acts]; rfl
theorem exOp_mkfn (f : FuncId) (caps : List Opd) : exOp E h nb hd s (.mkfn f caps) = ob (evP h s (.mkfn f caps)) fun p => some (p.1, s, []) := by simp only [exOp, AOp.acts]; rfl
theorem exOp_mkbv (f : FuncId) (first : List Opd) : exOp E h nb hd s (.mkbv f first) = ob (evP h s (.mkbv f first)) fun p => some (p.1, s, []) := by simp only [exOp, AOp.acts]; rfl
theorem exOp_mkvia (t : TypeId) (path : List FieldStep) (f : FuncId) (pointer : Bool) : exOp E h nb hd s (.mkvia t path f pointer) = ob (evP h s (.mkvia t path f pointer)) fun p => some (p.1, s, []) := by simp only [exOp, AOp.acts]; rfl
theorem exOp_nilchk (x : Opd) : exOp E h nb hd s (.nilchk x) = ob (evP h s (.nilchk x)) fun p => some (p.1, s, []) := by simp only [exOp, AOp.acts]; rfl
theorem exOp_nres (sz : Nat) : exOp E h nb hd s (.nres sz) = evI h nb s (.nres sz) := by simp only [exOp, AOp.acts]; rfl
theorem exOp_alloc (z : List Z) : exOp E h nb hd s (.alloc z) = evI h nb s (.alloc z) := by simp only [exOp, AOp.acts]; rfl
theorem exOp_allocAt (k : Nat) (z : List Z) : exOp E h nb hd s (.allocAt k z) = evI h nb s (.allocAt k z) := by simp only [exOp, AOp.acts]; rfl
theorem exOp_box (x : Opd) : exOp E h nb hd s (.box x) = evI h nb s (.box x) := by simp only [exOp, AOp.acts]; rfl
theorem exOp_bslice (sz len : Nat) (z : List GV) (ps : List (Nat × Nat × Opd)) : exOp E h nb hd s (.bslice sz len z ps) = evI h nb s (.bslice sz len z ps) := by simp only [exOp, AOp.acts]; rfl
theorem exOp_store (n : Nat) (p x : Opd) : exOp E h nb hd s (.store n p x) = evI h nb s (.store n p x) := by simp only [exOp, AOp.acts]; rfl
theorem exOp_mk (sz bytes : Nat) (z : List GV) (len cap : Opd) : exOp E h nb hd s (.mk sz bytes z len cap) = evI h nb s (.mk sz bytes z len cap) := by simp only [exOp, AOp.acts]; rfl
theorem exOp_app (sz bytes : Nat) (x y : Opd) : exOp E h nb hd s (.app sz bytes x y) = evI h nb s (.app sz bytes x y) := by simp only [exOp, AOp.acts]; rfl
theorem exOp_appS (x y : Opd) : exOp E h nb hd s (.appS x y) = evI h nb s (.appS x y) := by simp only [exOp, AOp.acts]; rfl
theorem exOp_appZ (sz bytes : Nat) (z : List GV) (x n : Opd) : exOp E h nb hd s (.appZ sz bytes z x n) = evI h nb s (.appZ sz bytes z x n) := by simp only [exOp, AOp.acts]; rfl
theorem exOp_clear (z : List GV) (x : Opd) : exOp E h nb hd s (.clear z x) = evI h nb s (.clear z x) := by simp only [exOp, AOp.acts]; rfl
theorem exOp_convSB (x : Opd) : exOp E h nb hd s (.convSB x) = evI h nb s (.convSB x) := by simp only [exOp, AOp.acts]; rfl
theorem exOp_allocT (T e : TypeId) (z : List Z) : exOp E h nb hd s (.allocT T e z) = evI h nb s (.allocT T e z) := by simp only [exOp, AOp.acts]; rfl
theorem exOp_appT (e : TypeId) (x y : Opd) : exOp E h nb hd s (.appT e x y) = evI h nb s (.appT e x y) := by simp only [exOp, AOp.acts]; rfl
theorem exOp_toU (x : Opd) : exOp E h nb hd s (.toU x) = evI h nb s (.toU x) := by simp only [exOp, AOp.acts]; rfl
theorem exOp_fromU (ts : List (TypeId × Nat)) (x : Opd) : exOp E h nb hd s (.fromU ts x) = evI h nb s (.fromU ts x) := by simp only [exOp, AOp.acts]; rfl
theorem exOp_sdata (x : Opd) : exOp E h nb hd s (.sdata x) = evI h nb s (.sdata x) := by simp only [exOp, AOp.acts]; rfl
theorem exOp_ustr (e : TypeId) (x y : Opd) : exOp E h nb hd s (.ustr e x y) = evI h nb s (.ustr e x y) := by simp only [exOp, AOp.acts]; rfl
theorem exOp_neqp (x y : Opd) : exOp E h nb hd s (.neqp x y) = evI h nb s (.neqp x y) := by simp only [exOp, AOp.acts]; rfl
theorem exOp_mkmap : exOp E h nb hd s .mkmap = evI h nb s .mkmap := by simp only [exOp, AOp.acts]; rfl
theorem exOp_mget (cm : Bool) (kk : LK) (z : Option GV) (x k : Opd) : exOp E h nb hd s (.mget cm kk z x k) = evI h nb s (.mget cm kk z x k) := by simp only [exOp, AOp.acts]; rfl
theorem exOp_mset (kk : LK) (x k v : Opd) : exOp E h nb hd s (.mset kk x k v) = evI h nb s (.mset kk x k v) := by simp only [exOp, AOp.acts]; rfl
attribute [simp] exOp_mkmap exOp_mget exOp_mset exOp_allocT exOp_appT exOp_toU exOp_fromU exOp_sdata exOp_ustr exOp_neqp exOp_call exOp_mov exOp_pick exOp_bin exOp_eqs exOp_isnil exOp_isnilS exOp_mk0 exOp_un exOp_conv exOp_convId exOp_convBS exOp_field exOp_faddr exOp_iaddr exOp_iaddrA exOp_index exOp_indexA exOp_load exOp_ext exOp_len exOp_lenS exOp_cap exOp_mx exOp_mn exOp_build exOp_slc exOp_slc3 exOp_slcS exOp_mkif exOp_mkfn exOp_mkbv exOp_mkvia exOp_nilchk exOp_nres exOp_alloc exOp_allocAt exOp_box exOp_bslice exOp_store exOp_mk exOp_app exOp_appS exOp_appZ exOp_clear exOp_convSB
end

/-! ### Values' arms at a time -/
@[simp] theorem cellsO_g (v : GV) : (AV.g v).cellsO = some [.g v] := by simp only [AV.cellsO]
@[simp] theorem cellsO_agg (cs : List AV) : (AV.agg cs).cellsO = some cs := by simp only [AV.cellsO]
@[simp] theorem cellsO_ptr (a b : Nat) : (AV.ptr a b).cellsO = some [.ptr a b] := by simp only [AV.cellsO]
@[simp] theorem cellsO_ms (a b c d e : Nat) : (AV.ms a b c d e).cellsO = some [.ms a b c d e] := by simp only [AV.cellsO]
@[simp] theorem cellsO_cp (cs : List GV) : (AV.cp cs).cellsO = some [.cp cs] := by simp only [AV.cellsO]
@[simp] theorem cellsO_fv (f : FuncId) (cs : List AV) : (AV.fv f cs).cellsO = some [.fv f cs] := by simp only [AV.cellsO]
@[simp] theorem cellsO_bv (f : FuncId) (cs : List AV) : (AV.bv f cs).cellsO = some [.bv f cs] := by simp only [AV.cellsO]
@[simp] theorem cellsO_ifa (t : TypeId) (v : AV) : (AV.ifa t v).cellsO = some [.ifa t v] := by simp only [AV.cellsO]
@[simp] theorem cellsO_mp (i : Nat) : (AV.mp i).cellsO = some [.mp i] := by simp only [AV.cellsO]
@[simp] theorem leaf_g (v : GV) : (AV.g v).leaf = true := by simp only [AV.leaf]
@[simp] theorem leaf_ptr (a b : Nat) : (AV.ptr a b).leaf = true := by simp only [AV.leaf]
@[simp] theorem leaf_ms (a b c d e : Nat) : (AV.ms a b c d e).leaf = true := by simp only [AV.leaf]
@[simp] theorem leaf_cp (cs : List GV) : (AV.cp cs).leaf = true := by simp only [AV.leaf]
@[simp] theorem leaf_fv (f : FuncId) (cs : List AV) : (AV.fv f cs).leaf = true := by simp only [AV.leaf]
@[simp] theorem leaf_bv (f : FuncId) (cs : List AV) : (AV.bv f cs).leaf = true := by simp only [AV.leaf]
@[simp] theorem leaf_ifa (t : TypeId) (v : AV) : (AV.ifa t v).leaf = true := by simp only [AV.leaf]
@[simp] theorem leaf_mp (i : Nat) : (AV.mp i).leaf = true := by simp only [AV.leaf]
@[simp] theorem lt0_g (n : Nat) (v : GV) : (AV.g v).lt0 n = true := by simp only [AV.lt0]
@[simp] theorem lt0_cp (n : Nat) (v : List GV) : (AV.cp v).lt0 n = true := by simp only [AV.lt0]
@[simp] theorem lt0_ptr (n a b : Nat) : (AV.ptr a b).lt0 n = decide (a < n) := by simp only [AV.lt0]
@[simp] theorem lt0_ms (n a b c d e : Nat) : (AV.ms a b c d e).lt0 n = decide (a < n) := by simp only [AV.lt0]
@[simp] theorem lt1_g (n : Nat) (v : GV) : (AV.g v).lt1 n = true := by simp only [AV.lt1, AV.lt0]
@[simp] theorem lt1_cp (n : Nat) (v : List GV) : (AV.cp v).lt1 n = true := by simp only [AV.lt1, AV.lt0]
@[simp] theorem lt1_ptr (n a b : Nat) : (AV.ptr a b).lt1 n = decide (a < n) := by simp only [AV.lt1, AV.lt0]
@[simp] theorem lt1_ms (n a b c d e : Nat) : (AV.ms a b c d e).lt1 n = decide (a < n) := by simp only [AV.lt1, AV.lt0]
@[simp] theorem frz0_g (h : List Blk) (s : St) (v : GV) : frz0 h s (.g v) = some (.g v) := by simp only [frz0, AV.lt1, AV.lt0]; rfl
@[simp] theorem frz0_ms (h : List Blk) (s : St) (id gen sz off len : Nat) : frz0 h s (.ms id gen sz off len) = if id < h.length then some (.ms id gen sz off len) else
    ob (viewN h s sz (.ms id gen sz off len)) fun els => some (.g (if gen = 1 then .nsl else .sl sz els)) := by
  simp only [frz0]
  split
  · rfl
  · cases viewN h s sz (.ms id gen sz off len) <;> rfl
@[simp] theorem frz0_ptr (h : List Blk) (s : St) (a b : Nat) : frz0 h s (.ptr a b) = if a < h.length then some (.ptr a b) else none := by simp [frz0]
@[simp] theorem frz2_g (h : List Blk) (s : St) (v : GV) : frz2 h s (.g v) = some (.g v) := by simp only [frz2, frz0, AV.lt1, AV.lt0]; rfl
@[simp] theorem frz2_agg (h : List Blk) (s : St) (cs : List AV) : frz2 h s (.agg cs) = ob (frz1 h s cs) fun cs => some (.agg cs) := by simp only [frz2]; cases frz1 h s cs <;> rfl
@[simp] theorem frz2_ms (h : List Blk) (s : St) (a b c d e : Nat) : frz2 h s (.ms a b c d e) = frz0 h s (.ms a b c d e) := by simp only [frz2]
@[simp] theorem frz2_ptr (h : List Blk) (s : St) (a b : Nat) : frz2 h s (.ptr a b) = frz0 h s (.ptr a b) := by simp only [frz2]
@[simp] theorem tupV_one (v : AV) : tupV [v] = v := rfl
@[simp] theorem tupV_nil : tupV [] = .tup [] := rfl
@[simp] theorem tupV_two (a b : AV) (r : List AV) : tupV (a :: b :: r) = .tup (a :: b :: r) := rfl
/-! ### Whole numbers' arms -/
def orI (k : IntKind) (a b : Int) : Int := k.wrap (BitVec.ofInt k.bits a ||| BitVec.ofInt k.bits b).toNat
def andI (k : IntKind) (a b : Int) : Int := k.wrap (BitVec.ofInt k.bits a &&& BitVec.ofInt k.bits b).toNat
def xorI (k : IntKind) (a b : Int) : Int := k.wrap (BitVec.ofInt k.bits a ^^^ BitVec.ofInt k.bits b).toNat
def andNotI (k : IntKind) (a b : Int) : Int := k.wrap (BitVec.ofInt k.bits a &&& ~~~ BitVec.ofInt k.bits b).toNat
section
variable (k : IntKind) (a b : Int)
@[simp] theorem binV_add : binV .add (.g (.int k a)) (.g (.int k b)) = some (.g (.int k (k.wrap (a + b)))) := by simp [binV, intOp]
@[simp] theorem binV_sub : binV .sub (.g (.int k a)) (.g (.int k b)) = some (.g (.int k (k.wrap (a - b)))) := by simp [binV, intOp]
@[simp] theorem binV_mul : binV .mul (.g (.int k a)) (.g (.int k b)) = some (.g (.int k (k.wrap (a * b)))) := by simp [binV, intOp]
@[simp] theorem binV_quo : binV .quo (.g (.int k a)) (.g (.int k b)) = if b = 0 then none else some (.g (.int k (k.wrap (a.tdiv b)))) := by simp [binV, intOp]
@[simp] theorem binV_rem : binV .rem (.g (.int k a)) (.g (.int k b)) = if b = 0 then none else some (.g (.int k (a.tmod b))) := by simp [binV, intOp]
@[simp] theorem binV_and : binV .and (.g (.int k a)) (.g (.int k b)) = some (.g (.int k (andI k a b))) := by simp [binV, intOp, andI]
@[simp] theorem binV_or : binV .or (.g (.int k a)) (.g (.int k b)) = some (.g (.int k (orI k a b))) := by simp [binV, intOp, orI]
@[simp] theorem binV_xor : binV .xor (.g (.int k a)) (.g (.int k b)) = some (.g (.int k (xorI k a b))) := by simp [binV, intOp, xorI]
@[simp] theorem binV_andNot : binV .andNot (.g (.int k a)) (.g (.int k b)) = some (.g (.int k (andNotI k a b))) := by simp [binV, intOp, andNotI]
@[simp] theorem binV_eql : binV .eql (.g (.int k a)) (.g (.int k b)) = some (.g (.bool (a == b))) := by simp [binV, intOp]
@[simp] theorem binV_neq : binV .neq (.g (.int k a)) (.g (.int k b)) = some (.g (.bool (a != b))) := by simp [binV, intOp]
@[simp] theorem binV_lss : binV .lss (.g (.int k a)) (.g (.int k b)) = some (.g (.bool (decide (a < b)))) := by simp [binV, intOp]
@[simp] theorem binV_leq : binV .leq (.g (.int k a)) (.g (.int k b)) = some (.g (.bool (decide (a ≤ b)))) := by simp [binV, intOp]
@[simp] theorem binV_gtr : binV .gtr (.g (.int k a)) (.g (.int k b)) = some (.g (.bool (decide (b < a)))) := by simp [binV, intOp]
@[simp] theorem binV_geq : binV .geq (.g (.int k a)) (.g (.int k b)) = some (.g (.bool (decide (b ≤ a)))) := by simp [binV, intOp]
@[simp] theorem binV_shl (k' : IntKind) : binV .shl (.g (.int k a)) (.g (.int k' b)) = if b < 0 then none else some (.g (.int k (k.wrap (a * 2 ^ (min b.toNat k.bits))))) := by simp [binV, shiftOp]
@[simp] theorem binV_shr (k' : IntKind) : binV .shr (.g (.int k a)) (.g (.int k' b)) = if b < 0 then none else some (.g (.int k (a.fdiv (2 ^ (min b.toNat k.bits))))) := by simp [binV, shiftOp]
end
section
variable (a b : List UInt8)
@[simp] theorem binV_sadd : binV .add (.g (.str a)) (.g (.str b)) = if a.length + b.length ≤ 9223372036854775807 then some (.g (.str (a ++ b))) else none := by simp [binV, strOp]
@[simp] theorem binV_seql : binV .eql (.g (.str a)) (.g (.str b)) = some (.g (.bool (a == b))) := by simp [binV, strOp]
@[simp] theorem binV_sneq : binV .neq (.g (.str a)) (.g (.str b)) = some (.g (.bool (!(a == b)))) := by simp [binV, strOp]
@[simp] theorem binV_slss : binV .lss (.g (.str a)) (.g (.str b)) = some (.g (.bool (Op.bytesLess a b))) := by simp [binV, strOp]
@[simp] theorem binV_sleq : binV .leq (.g (.str a)) (.g (.str b)) = some (.g (.bool (Op.bytesLess a b || a == b))) := by simp [binV, strOp]
@[simp] theorem binV_sgtr : binV .gtr (.g (.str a)) (.g (.str b)) = some (.g (.bool (!(Op.bytesLess a b || a == b)))) := by simp [binV, strOp]
@[simp] theorem binV_sgeq : binV .geq (.g (.str a)) (.g (.str b)) = some (.g (.bool (!(Op.bytesLess a b)))) := by simp [binV, strOp]
end

/-! ### Calls -/
theorem evCall_fn (E : FnS) (h : List Blk) (s : St) (f : FuncId) (xs : List AV) : evCall E h [] s (.g (.fn f)) xs = fin h [] s (E f xs (full h s)) := by simp [evCall, hideB]
@[simp ↓] theorem fin_plain (h : List Blk) (hd : List Nat) (s : St) (r : AV) : fin h hd s (some ⟨r, [], []⟩) = some (r, s, []) := by simp [fin, setAll, St.app]
@[simp ↓] theorem fin_none (h : List Blk) (hd : List Nat) (s : St) : fin h hd s none = none := rfl
@[simp ↓] theorem fin_ite (h : List Blk) (hd : List Nat) (s : St) (c : Prop) [Decidable c] (a b : Option Res) : fin h hd s (if c then a else b) = if c then fin h hd s a else fin h hd s b := by split <;> rfl

/-! ### Own blocks -/
@[simp] theorem getB_own0 (h : List Blk) (t : List (Nat × AV)) (m : List (Nat × Blk)) (o : List Blk) : getB h ⟨t, m, o⟩ h.length = o[0]? := by simp [getB]
@[simp] theorem getB_own (h : List Blk) (t : List (Nat × AV)) (m : List (Nat × Blk)) (o : List Blk) (k : Nat) : getB h ⟨t, m, o⟩ (h.length + k) = o[k]? := by
  have : ¬ h.length + k < h.length := by omega
  simp [getB, this]
@[simp] theorem setB_own0 (h : List Blk) (t : List (Nat × AV)) (m : List (Nat × Blk)) (o : List Blk) (b : Blk) : setB h ⟨t, m, o⟩ h.length b = ⟨t, m, o.set 0 b⟩ := by simp [setB]
@[simp] theorem setB_own (h : List Blk) (t : List (Nat × AV)) (m : List (Nat × Blk)) (o : List Blk) (k : Nat) (b : Blk) : setB h ⟨t, m, o⟩ (h.length + k) b = ⟨t, m, o.set k b⟩ := by
  have : ¬ h.length + k < h.length := by omega
  simp [setB, this]
section
variable (h : List Blk) (s : St)
@[simp] theorem lenV_sl (sz : Nat) (els : List (List GV)) : lenV h s (.g (.sl sz els)) = some els.length := by simp only [lenV]
@[simp] theorem lenV_nsl : lenV h s (.g .nsl) = some 0 := by simp only [lenV]
@[simp] theorem lenV_ms (id g a b n : Nat) : lenV h s (.ms id g a b n) = if cur h s id g = true then some n else none := by simp only [lenV]
@[simp] theorem viewN_sl (sz sz' : Nat) (els : List (List GV)) : viewN h s sz (.g (.sl sz' els)) = if sz = sz' then some els else none := by simp only [viewN]
@[simp] theorem viewN_nsl (sz : Nat) : viewN h s sz (.g .nsl) = some [] := by simp only [viewN]
@[simp] theorem viewN_ms (sz id g sz' off len : Nat) : viewN h s sz (.ms id g sz' off len) = if sz = sz' then match getB h s id with
      | some (.rows sz2 g' els) => if g = g' ∧ sz2 = sz ∧ off + len ≤ els.length then some ((els.drop off).take len) else none
      | some (.fro sz2 g' els) => if g = g' ∧ sz2 = sz ∧ off + len ≤ els.length then some ((els.drop off).take len) else none
      | _ => none
    else none := by simp only [viewN]; rfl
end
attribute [simp] cur storeV St.push St.next grounds isNil eqV eqL eqG sub AM.one

end Go.AM
end

section
namespace Go.AM
open Go

theorem wrap_i64 {n : Int} (h1 : -9223372036854775808 ≤ n) (h2 : n ≤ 9223372036854775807) : IntKind.i64.wrap n = n := by
  simp [IntKind.wrap, IntKind.signed, IntKind.bits]
  split <;> omega
theorem wrap_u64 {n : Int} (h1 : 0 ≤ n) (h2 : n ≤ 18446744073709551615) : IntKind.u64.wrap n = n := by
  simp [IntKind.wrap, IntKind.signed, IntKind.bits]
  omega
theorem wrap_u64_mod (n : Int) : IntKind.u64.wrap n = n % 18446744073709551616 := by
  simp [IntKind.wrap, IntKind.signed, IntKind.bits]
theorem wrap_u8 (n : Int) : IntKind.u8.wrap n = n % 256 := by
  simp [IntKind.wrap, IntKind.signed, IntKind.bits]
@[simp] theorem bits_u64 : IntKind.u64.bits = 64 := rfl
@[simp] theorem bits_i64 : IntKind.i64.bits = 64 := rfl
@[simp] theorem bits_u8 : IntKind.u8.bits = 8 := rfl

end Go.AM
end

section
set_option linter.unusedSimpArgs false
set_option linter.unusedVariables false
set_option linter.constructorNameAsVariable false
namespace Go.AM
open Go Go.RowKit Go.ChangeShapes Go.WideShapes

/-- What a type's cells are. -/
inductive GTy where
  | b
  | i (k : IntKind)
  | s
  | sl (n : Nat) (e : GTy)
  | u
  | p (a b : GTy)
  deriving Inhabited, DecidableEq

def HasTy : GTy → List GV → Prop
  | .b, gs => ∃ x, gs = [.bool x]
  | .i k, gs => ∃ n, gs = [.int k n] ∧ k.min ≤ n ∧ n ≤ k.max
  | .s, gs => ∃ s, gs = [.str s] ∧ s.length ≤ 9223372036854775807
  | .sl n e, gs => gs = [.nsl] ∨ ∃ els : List (List GV), gs = [.sl n els] ∧ els.length ≤ 9223372036854775807 ∧ ∀ el ∈ els, HasTy e el
  | .u, gs => gs = []
  | .p a b, gs => ∃ x y, gs = x ++ y ∧ HasTy a x ∧ HasTy b y

def descrL (D : TypeId → Option GTy) : List (Nat × TypeId) → Option GTy
  | [] => some .u
  | (_, t) :: r => match D t, descrL D r with
    | some a, some b => some (.p a b)
    | _, _ => none

def descr (P : Program) : Nat → TypeId → Option GTy
  | 0, _ => none
  | d + 1, t => match P.underlying t with
    | some .bool => some .b
    | some (.int k) => some (.i k)
    | some .string => some .s
    | some (.slice e) => match descr P d e with
      | some x => some (.sl (P.cellsOf e) x)
      | none => none
    | some (.struct fs) => if tileP P (partsF fs) 0 (P.cellsOf t) = true then descrL (descr P d) (partsF fs) else none
    | some (.array n e) => if tileP P (partsA P n e) 0 (P.cellsOf t) = true then descrL (descr P d) (partsA P n e) else none
    | _ => none

theorem tileP_le {P : Program} : ∀ (ps : List (Nat × TypeId)) (off e : Nat), tileP P ps off e = true → off ≤ e
  | [], off, e, h => by simp [tileP] at h; omega
  | p :: ps, off, e, h => by
    simp only [tileP, Bool.and_eq_true] at h
    have := tileP_le ps _ _ h.2
    omega

theorem hasL {P : Program} {D : TypeId → Option GTy} {Q : TypeId → List GV → Prop} (hD : ∀ t ty gs, D t = some ty → Q t gs → HasTy ty gs) {gs : List GV} :
    ∀ (ps : List (Nat × TypeId)) (off : Nat) (ty : GTy), tileP P ps off gs.length = true → descrL D ps = some ty → (∀ p ∈ ps, Q p.2 ((gs.drop p.1).take (P.cellsOf p.2))) → HasTy ty (gs.drop off)
  | [], off, ty, ht, hd, hq => by
    simp [tileP] at ht
    simp only [descrL] at hd
    cases hd
    subst ht
    simp [HasTy]
  | (o, t) :: r, off, ty, ht, hd, hq => by
    simp only [tileP, Bool.and_eq_true, decide_eq_true_eq] at ht
    obtain ⟨rfl, ht⟩ := ht
    simp only [descrL] at hd
    split at hd
    · rename_i a b ha hb
      cases hd
      have h1 := hD t a _ ha (hq (o, t) (by simp))
      have h2 := hasL hD r _ b ht hb (fun p hp => hq p (by simp [hp]))
      simp only [HasTy]
      refine ⟨_, _, ?_, h1, h2⟩
      rw [← List.drop_drop]
      exact (List.take_append_drop _ _).symm
    · cases hd

theorem hasTy {P : Program} : ∀ (d : Nat) (t : TypeId) (ty : GTy) (gs : List GV), descr P d t = some ty → TypG P d t gs → HasTy ty gs
  | 0, _, _, _, h, _ => by cases h
  | d + 1, t, ty, gs, h, hg => by
    simp only [descr] at h
    simp only [TypG] at hg
    split at h
    · rename_i hu; rw [hu] at hg; cases h; exact hg
    · rename_i k hu
      rw [hu] at hg
      cases h
      obtain ⟨n, rfl, hw⟩ := hg
      simp only [Lit.wf, Bool.and_eq_true, decide_eq_true_eq] at hw
      exact ⟨n, rfl, hw.1, hw.2⟩
    · rename_i hu; rw [hu] at hg; cases h; exact hg
    · rename_i e hu
      rw [hu] at hg
      split at h
      · rename_i x hx
        cases h
        rcases hg with rfl | ⟨els, rfl, hl, he⟩
        · exact .inl rfl
        · exact .inr ⟨els, rfl, hl, fun el hel => hasTy d e x el hx (he el hel).2⟩
      · cases h
    · rename_i fs hu
      rw [hu] at hg
      split at h
      · rename_i ht
        have := hasL (P := P) (gs := gs) (Q := TypG P d) (fun t ty gs h1 h2 => hasTy d t ty gs h1 h2) (partsF fs) 0 ty (by rw [hg.1]; exact ht) h hg.2
        simpa using this
      · cases h
    · rename_i n e hu
      rw [hu] at hg
      split at h
      · rename_i ht
        have := hasL (P := P) (gs := gs) (Q := TypG P d) (fun t ty gs h1 h2 => hasTy d t ty gs h1 h2) (partsA P n e) 0 ty (by rw [hg.1]; exact ht) h hg.2
        simpa using this
      · cases h
    · cases h

/-! ### A law's arguments -/
def isAggT (P : Program) (t : TypeId) : Bool :=
  match P.underlying t with
  | some (.struct _) | some (.array _ _) => true
  | _ => false

def avG (agg : Bool) (gs : List GV) : AV := if agg = true then .agg (gs.map .g) else oneG gs

def avsG : List (Bool × GTy) → List (List GV) → List AV
  | (a, _) :: ts, g :: gs => avG a g :: avsG ts gs
  | _, _ => []

def HasAll : List (Bool × GTy) → List (List GV) → Prop
  | [], [] => True
  | t :: ts, g :: gs => HasTy t.2 g ∧ HasAll ts gs
  | _, _ => False

def descrs (P : Program) (d : Nat) : List TypeId → Option (List (Bool × GTy))
  | [] => some []
  | t :: ts => match descr P d t, descrs P d ts with
    | some a, some r => some ((isAggT P t, a) :: r)
    | _, _ => none

theorem avT_avG (P : Program) (t : TypeId) (gs : List GV) : avT P t gs = avG (isAggT P t) gs := by
  cases hu : P.underlying t with
  | none => simp [avT, avG, isAggT, hu]
  | some d => cases d <;> simp [avT, avG, isAggT, hu]

theorem all_ok {P : Program} {d : Nat} : ∀ (ts : List TypeId) (tys : List (Bool × GTy)) (gss : List (List GV)), descrs P d ts = some tys → TypAll P d ts gss → HasAll tys gss ∧ avs P ts gss = avsG tys gss
  | [], tys, gss, h, hg => by
    simp only [descrs] at h
    cases h
    obtain rfl := hg.nil_inv
    exact ⟨trivial, rfl⟩
  | t :: ts, tys, gss, h, hg => by
    obtain ⟨g, gs, rfl, h1, h2⟩ := hg.cons_inv
    simp only [descrs] at h
    split at h
    · rename_i a r ha hr
      cases h
      obtain ⟨k1, k2⟩ := all_ok ts r gs hr h2
      exact ⟨⟨hasTy d t a g ha h1, k1⟩, by simp only [avs, avsG, k2, avT_avG]⟩
    · cases h

/-- What is asked of a law's function, by the arguments' shapes. -/
theorem spec_of {T : Tab} {P : Program} {f : FuncId} {d : Nat} {ts : List TypeId} {tys : List (Bool × GTy)} (h : descrs P d ts = some tys)
    (spec : ∀ gss, HasAll tys gss → EvF T f (avsG tys gss) [] = some ⟨.g (.bool true), [], []⟩) :
    ∀ gss, TypAll P d ts gss → EvF T f (avs P ts gss) [] = some ⟨.g (.bool true), [], []⟩ := fun gss hg => by
  obtain ⟨k1, k2⟩ := all_ok ts tys gss h hg
  rw [k2]
  exact spec gss k1

theorem HasAll.cons_inv {t : Bool × GTy} {ts : List (Bool × GTy)} {gss : List (List GV)} (h : HasAll (t :: ts) gss) : ∃ g gs, gss = g :: gs ∧ HasTy t.2 g ∧ HasAll ts gs := by
  cases gss with
  | nil => exact h.elim
  | cons g gs => exact ⟨g, gs, rfl, h.1, h.2⟩
theorem HasAll.nil_inv {gss : List (List GV)} (h : HasAll [] gss) : gss = [] := by
  cases gss with
  | nil => rfl
  | cons g gs => exact h.elim

/-! ### Slices of things -/
inductive Sl (α : Type) where
  | nil
  | of (l : List α)

def Sl.l {α : Type} : Sl α → List α
  | .nil => []
  | .of l => l

def Sl.g {α : Type} (n : Nat) (c : α → List GV) : Sl α → GV
  | .nil => .nsl
  | .of l => .sl n (l.map c)

@[simp] theorem Sl.g_nil {α : Type} (n : Nat) (c : α → List GV) : (Sl.nil : Sl α).g n c = .nsl := rfl
@[simp] theorem Sl.g_of {α : Type} (n : Nat) (c : α → List GV) (l : List α) : (Sl.of l).g n c = .sl n (l.map c) := rfl
@[simp] theorem lenV_Sl {α : Type} (h : List Blk) (st : St) (n : Nat) (c : α → List GV) (s : Sl α) : lenV h st (.g (s.g n c)) = some s.l.length := by cases s <;> simp [lenV, Sl.g, Sl.l]
@[simp] theorem viewN_Sl {α : Type} (h : List Blk) (st : St) (n : Nat) (c : α → List GV) (s : Sl α) : viewN h st n (.g (s.g n c)) = some (s.l.map c) := by cases s <;> simp [viewN, Sl.g, Sl.l]
@[simp] theorem Sl.l_nil {α : Type} : (Sl.nil : Sl α).l = [] := rfl
@[simp] theorem Sl.l_of {α : Type} (l : List α) : (Sl.of l).l = l := rfl

theorem Sl.both {α : Type} {a b : Sl α} (h : a.l = b.l) : ∃ l, (a = .of l ∧ b = .of l) ∨ (a = .nil ∧ b = .nil ∧ l = []) ∨ (a = .nil ∧ b = .of [] ∧ l = []) ∨ (a = .of [] ∧ b = .nil ∧ l = []) := by
  cases a with
  | nil => cases b with
    | nil => exact ⟨[], .inr (.inl ⟨rfl, rfl, rfl⟩)⟩
    | of l => simp at h; subst h; exact ⟨[], .inr (.inr (.inl ⟨rfl, rfl, rfl⟩))⟩
  | of l => cases b with
    | nil => simp at h; subst h; exact ⟨[], .inr (.inr (.inr ⟨rfl, rfl, rfl⟩))⟩
    | of l' => simp at h; subst h; exact ⟨l, .inl ⟨rfl, rfl⟩⟩

theorem list_inv {α : Type} {C : α → List GV} {W : α → Prop} {Q : List GV → Prop} (he : ∀ gs, Q gs → ∃ x, W x ∧ gs = C x) : ∀ (els : List (List GV)), (∀ el ∈ els, Q el) → ∃ l : List α, els = l.map C ∧ ∀ x ∈ l, W x
  | [], _ => ⟨[], rfl, fun x hx => by cases hx⟩
  | el :: els, h => by
    obtain ⟨x, k1, rfl⟩ := he el (h el (by simp))
    obtain ⟨l, rfl, k2⟩ := list_inv he els (fun el hel => h el (by simp [hel]))
    exact ⟨x :: l, rfl, fun y hy => by rcases List.mem_cons.1 hy with rfl | hy; exact k1; exact k2 y hy⟩

theorem HasTy.sl_inv {α : Type} {C : α → List GV} {W : α → Prop} {n : Nat} {e : GTy} (he : ∀ gs, HasTy e gs → ∃ x, W x ∧ gs = C x) {gs : List GV} (h : HasTy (.sl n e) gs) :
    ∃ s : Sl α, (∀ x ∈ s.l, W x) ∧ s.l.length ≤ 9223372036854775807 ∧ gs = [s.g n C] := by
  rcases h with rfl | ⟨els, rfl, hl, hel⟩
  · exact ⟨.nil, fun x hx => (by simp at hx), by simp, rfl⟩
  · obtain ⟨l, rfl, k⟩ := list_inv he els hel
    exact ⟨.of l, k, by simpa using hl, rfl⟩

def I64 (n : Int) : Prop := -9223372036854775808 ≤ n ∧ n ≤ 9223372036854775807

end Go.AM
end

section
set_option linter.unusedSimpArgs false
set_option linter.unusedVariables false
set_option linter.constructorNameAsVariable false
namespace Go.AM
open Go

abbrev Bs := List UInt8
def S64 (s : Bs) : Prop := s.length ≤ 9223372036854775807

theorem ti_inv {gs : List GV} (h : HasTy (.i .i64) gs) : ∃ n, I64 n ∧ gs = [.int .i64 n] := by
  obtain ⟨n, rfl, h1, h2⟩ := h; exact ⟨n, ⟨h1, h2⟩, rfl⟩
theorem tu_inv {gs : List GV} (h : HasTy (.i .u64) gs) : ∃ n, (0 ≤ n ∧ n ≤ 18446744073709551615) ∧ gs = [.int .u64 n] := by
  obtain ⟨n, rfl, h1, h2⟩ := h; exact ⟨n, ⟨h1, h2⟩, rfl⟩
theorem ts_inv {gs : List GV} (h : HasTy .s gs) : ∃ n, S64 n ∧ gs = [.str n] := by
  obtain ⟨n, rfl, h1⟩ := h; exact ⟨n, h1, rfl⟩
theorem tb_inv {gs : List GV} (h : HasTy .b gs) : ∃ n : Bool, True ∧ gs = [.bool n] := by
  obtain ⟨n, rfl⟩ := h; exact ⟨n, trivial, rfl⟩

structure KV where
  key : Bs
  value : Bs
  create : Int
  mod : Int
  version : Int
  lease : Int
  deriving DecidableEq, Inhabited
def KV.c (x : KV) : List GV := [.str x.key, .str x.value, .int .i64 x.create, .int .i64 x.mod, .int .i64 x.version, .int .i64 x.lease]
def KV.wf (x : KV) : Prop := S64 x.key ∧ S64 x.value ∧ I64 x.create ∧ I64 x.mod ∧ I64 x.version ∧ I64 x.lease
abbrev tKV : GTy := .p .s (.p .s (.p (.i .i64) (.p (.i .i64) (.p (.i .i64) (.p (.i .i64) .u)))))
theorem KV.inv {gs : List GV} (h : HasTy tKV gs) : ∃ x : KV, x.wf ∧ gs = x.c := by
  obtain ⟨_, _, rfl, ⟨a, rfl, ha⟩, _, _, rfl, ⟨b, rfl, hb⟩, _, _, rfl, ⟨c, rfl, hc⟩, _, _, rfl, ⟨d, rfl, hd⟩, _, _, rfl, ⟨e, rfl, he⟩, _, _, rfl, ⟨f, rfl, hf⟩, rfl⟩ := h
  exact ⟨⟨a, b, c, d, e, f⟩, ⟨ha, hb, hc, hd, he, hf⟩, rfl⟩

structure Ev where
  rev : Int
  gone : Bool
  kv : KV
  deriving DecidableEq, Inhabited
def Ev.c (x : Ev) : List GV := [.int .i64 x.rev, .bool x.gone, .str x.kv.key, .str x.kv.value, .int .i64 x.kv.create, .int .i64 x.kv.mod, .int .i64 x.kv.version, .int .i64 x.kv.lease]
def Ev.wf (x : Ev) : Prop := I64 x.rev ∧ x.kv.wf
abbrev tEv : GTy := .p (.i .i64) (.p .b (.p tKV .u))
theorem Ev.inv {gs : List GV} (h : HasTy tEv gs) : ∃ x : Ev, x.wf ∧ gs = x.c := by
  obtain ⟨_, _, rfl, ⟨a, rfl, ha⟩, _, _, rfl, ⟨b, rfl⟩, _, _, rfl, hc, rfl⟩ := h
  obtain ⟨x, hx, rfl⟩ := KV.inv hc
  exact ⟨⟨a, b, x⟩, ⟨ha, hx⟩, by simp [Ev.c, KV.c]⟩

structure Cmp where
  key : Bs
  what : Int
  how : Int
  n : Int
  value : Bs
  deriving DecidableEq, Inhabited
def Cmp.c (x : Cmp) : List GV := [.str x.key, .int .i64 x.what, .int .i64 x.how, .int .i64 x.n, .str x.value]
def Cmp.wf (x : Cmp) : Prop := S64 x.key ∧ I64 x.what ∧ I64 x.how ∧ I64 x.n ∧ S64 x.value
abbrev tCmp : GTy := .p .s (.p (.i .i64) (.p (.i .i64) (.p (.i .i64) (.p .s .u))))
theorem Cmp.inv {gs : List GV} (h : HasTy tCmp gs) : ∃ x : Cmp, x.wf ∧ gs = x.c := by
  obtain ⟨_, _, rfl, ⟨a, rfl, ha⟩, _, _, rfl, ⟨b, rfl, hb⟩, _, _, rfl, ⟨c, rfl, hc⟩, _, _, rfl, ⟨d, rfl, hd⟩, _, _, rfl, ⟨e, rfl, he⟩, rfl⟩ := h
  exact ⟨⟨a, b, c, d, e⟩, ⟨ha, hb, hc, hd, he⟩, rfl⟩

structure Mut where
  gone : Bool
  key : Bs
  value : Bs
  lease : Int
  deriving DecidableEq, Inhabited
def Mut.c (x : Mut) : List GV := [.bool x.gone, .str x.key, .str x.value, .int .i64 x.lease]
def Mut.wf (x : Mut) : Prop := S64 x.key ∧ S64 x.value ∧ I64 x.lease
abbrev tMut : GTy := .p .b (.p .s (.p .s (.p (.i .i64) .u)))
theorem Mut.inv {gs : List GV} (h : HasTy tMut gs) : ∃ x : Mut, x.wf ∧ gs = x.c := by
  obtain ⟨_, _, rfl, ⟨a, rfl⟩, _, _, rfl, ⟨b, rfl, hb⟩, _, _, rfl, ⟨c, rfl, hc⟩, _, _, rfl, ⟨d, rfl, hd⟩, rfl⟩ := h
  exact ⟨⟨a, b, c, d⟩, ⟨hb, hc, hd⟩, rfl⟩

abbrev KVs := Sl KV
abbrev Evs := Sl Ev
abbrev KVs.g (s : KVs) : GV := Sl.g 6 KV.c s
abbrev Evs.g (s : Evs) : GV := Sl.g 8 Ev.c s
abbrev Cmps.g (s : Sl Cmp) : GV := Sl.g 5 Cmp.c s
abbrev Muts.g (s : Sl Mut) : GV := Sl.g 4 Mut.c s

structure Reply where
  code : Int
  who : Int
  seq : Int
  rev : Int
  lease : Int
  ttl : Int
  yes : Bool
  kvs : KVs
  events : Evs
def Reply.c (x : Reply) : List GV := [.int .i64 x.code, .int .i64 x.who, .int .i64 x.seq, .int .i64 x.rev, .int .i64 x.lease, .int .i64 x.ttl, .bool x.yes, x.kvs.g, x.events.g]
def Reply.wf (x : Reply) : Prop := I64 x.code ∧ I64 x.who ∧ I64 x.seq ∧ I64 x.rev ∧ I64 x.lease ∧ I64 x.ttl ∧ ((∀ y ∈ x.kvs.l, y.wf) ∧ x.kvs.l.length ≤ 9223372036854775807) ∧ ((∀ y ∈ x.events.l, y.wf) ∧ x.events.l.length ≤ 9223372036854775807)
abbrev tReply : GTy := .p (.i .i64) (.p (.i .i64) (.p (.i .i64) (.p (.i .i64) (.p (.i .i64) (.p (.i .i64) (.p .b (.p (.sl 6 tKV) (.p (.sl 8 tEv) .u))))))))
theorem Reply.inv {gs : List GV} (h : HasTy tReply gs) : ∃ x : Reply, x.wf ∧ gs = x.c := by
  obtain ⟨_, _, rfl, ⟨a, rfl, ha⟩, _, _, rfl, ⟨b, rfl, hb⟩, _, _, rfl, ⟨c, rfl, hc⟩, _, _, rfl, ⟨d, rfl, hd⟩, _, _, rfl, ⟨e, rfl, he⟩, _, _, rfl, ⟨f, rfl, hf⟩, _, _, rfl, ⟨y, rfl⟩, _, _, rfl, hk, _, _, rfl, hv, rfl⟩ := h
  obtain ⟨k, k1, k2, rfl⟩ := hk.sl_inv (fun _ => KV.inv)
  obtain ⟨v, v1, v2, rfl⟩ := hv.sl_inv (fun _ => Ev.inv)
  exact ⟨⟨a, b, c, d, e, f, y, k, v⟩, ⟨ha, hb, hc, hd, he, hf, ⟨k1, k2⟩, ⟨v1, v2⟩⟩, rfl⟩

structure Req where
  kind : Int
  who : Int
  seq : Int
  once : Bool
  key : Bs
  value : Bs
  lease : Int
  rev : Int
  ttl : Int
  token : Int
  iff : Sl Cmp
  thn : Sl Mut
  els : Sl Mut
def Req.c (x : Req) : List GV := [.int .i64 x.kind, .int .i64 x.who, .int .i64 x.seq, .bool x.once, .str x.key, .str x.value, .int .i64 x.lease, .int .i64 x.rev, .int .i64 x.ttl, .int .i64 x.token, Cmps.g x.iff, Muts.g x.thn, Muts.g x.els]
def Req.wf (x : Req) : Prop := I64 x.kind ∧ I64 x.who ∧ I64 x.seq ∧ S64 x.key ∧ S64 x.value ∧ I64 x.lease ∧ I64 x.rev ∧ I64 x.ttl ∧ I64 x.token ∧ ((∀ y ∈ x.iff.l, y.wf) ∧ x.iff.l.length ≤ 9223372036854775807) ∧ ((∀ y ∈ x.thn.l, y.wf) ∧ x.thn.l.length ≤ 9223372036854775807) ∧ ((∀ y ∈ x.els.l, y.wf) ∧ x.els.l.length ≤ 9223372036854775807)
abbrev tTxn : GTy := .p (.sl 5 tCmp) (.p (.sl 4 tMut) (.p (.sl 4 tMut) .u))
abbrev tReq : GTy := .p (.i .i64) (.p (.i .i64) (.p (.i .i64) (.p .b (.p .s (.p .s (.p (.i .i64) (.p (.i .i64) (.p (.i .i64) (.p (.i .i64) (.p tTxn .u))))))))))
theorem Req.inv {gs : List GV} (h : HasTy tReq gs) : ∃ x : Req, x.wf ∧ gs = x.c := by
  obtain ⟨_, _, rfl, ⟨a, rfl, ha⟩, _, _, rfl, ⟨b, rfl, hb⟩, _, _, rfl, ⟨c, rfl, hc⟩, _, _, rfl, ⟨d, rfl⟩, _, _, rfl, ⟨e, rfl, he⟩, _, _, rfl, ⟨f, rfl, hf⟩, _, _, rfl, ⟨i, rfl, hi⟩, _, _, rfl, ⟨j, rfl, hj⟩, _, _, rfl, ⟨k, rfl, hk⟩, _, _, rfl, ⟨l, rfl, hl⟩, _, _, rfl, ⟨_, _, rfl, h1, _, _, rfl, h2, _, _, rfl, h3, rfl⟩, rfl⟩ := h
  obtain ⟨p, p1, p2, rfl⟩ := h1.sl_inv (fun _ => Cmp.inv)
  obtain ⟨q, q1, q2, rfl⟩ := h2.sl_inv (fun _ => Mut.inv)
  obtain ⟨r, r1, r2, rfl⟩ := h3.sl_inv (fun _ => Mut.inv)
  exact ⟨⟨a, b, c, d, e, f, i, j, k, l, p, q, r⟩, ⟨ha, hb, hc, he, hf, hi, hj, hk, hl, ⟨p1, p2⟩, ⟨q1, q2⟩, ⟨r1, r2⟩⟩, rfl⟩

structure Sess where
  lease : Int
  ttl : Int
  till : Int
  keep : Int
  deriving DecidableEq, Inhabited
def Sess.c (x : Sess) : List GV := [.int .i64 x.lease, .int .i64 x.ttl, .int .i64 x.till, .int .i64 x.keep]
def Sess.wf (x : Sess) : Prop := I64 x.lease ∧ I64 x.ttl ∧ I64 x.till ∧ I64 x.keep
abbrev tSess : GTy := .p (.i .i64) (.p (.i .i64) (.p (.i .i64) (.p (.i .i64) .u)))
theorem Sess.inv {gs : List GV} (h : HasTy tSess gs) : ∃ x : Sess, x.wf ∧ gs = x.c := by
  obtain ⟨_, _, rfl, ⟨a, rfl, ha⟩, _, _, rfl, ⟨b, rfl, hb⟩, _, _, rfl, ⟨c, rfl, hc⟩, _, _, rfl, ⟨d, rfl, hd⟩, rfl⟩ := h
  exact ⟨⟨a, b, c, d⟩, ⟨ha, hb, hc, hd⟩, rfl⟩

def Ints.c (n : Int) : List GV := [.int .i64 n]
abbrev Ints.g (s : Sl Int) : GV := Sl.g 1 Ints.c s
theorem tis_inv {gs : List GV} (h : HasTy (.sl 1 (.i .i64)) gs) : ∃ s : Sl Int, ((∀ x ∈ s.l, I64 x) ∧ s.l.length ≤ 9223372036854775807) ∧ gs = [Ints.g s] := by
  obtain ⟨s, h1, h2, rfl⟩ := h.sl_inv (fun _ => ti_inv)
  exact ⟨s, ⟨h1, h2⟩, rfl⟩

structure Lease where
  id : Int
  ttl : Int
  till : Int
  deriving DecidableEq, Inhabited
def Lease.c (x : Lease) : List GV := [.int .i64 x.id, .int .i64 x.ttl, .int .i64 x.till]
def Lease.wf (x : Lease) : Prop := I64 x.id ∧ I64 x.ttl ∧ I64 x.till
abbrev tLease : GTy := .p (.i .i64) (.p (.i .i64) (.p (.i .i64) .u))
theorem Lease.inv {gs : List GV} (h : HasTy tLease gs) : ∃ x : Lease, x.wf ∧ gs = x.c := by
  obtain ⟨_, _, rfl, ⟨a, rfl, ha⟩, _, _, rfl, ⟨b, rfl, hb⟩, _, _, rfl, ⟨c, rfl, hc⟩, rfl⟩ := h
  exact ⟨⟨a, b, c⟩, ⟨ha, hb, hc⟩, rfl⟩
abbrev LeaseL.g (s : Sl Lease) : GV := Sl.g 3 Lease.c s
structure Leases where
  next : Int
  l : Sl Lease
def Leases.c (x : Leases) : List GV := [.int .i64 x.next, LeaseL.g x.l]
def Leases.wf (x : Leases) : Prop := I64 x.next ∧ (∀ y ∈ x.l.l, y.wf) ∧ x.l.l.length ≤ 9223372036854775807
abbrev tLeases : GTy := .p (.i .i64) (.p (.sl 3 tLease) .u)
theorem Leases.inv {gs : List GV} (h : HasTy tLeases gs) : ∃ x : Leases, x.wf ∧ gs = x.c := by
  obtain ⟨_, _, rfl, ⟨a, rfl, ha⟩, _, _, rfl, hk, rfl⟩ := h
  obtain ⟨k, k1, k2, rfl⟩ := hk.sl_inv (fun _ => Lease.inv)
  exact ⟨⟨a, k⟩, ⟨ha, k1, k2⟩, rfl⟩
theorem KVs.inv {gs : List GV} (h : HasTy (.sl 6 tKV) gs) : ∃ s : KVs, ((∀ y ∈ s.l, y.wf) ∧ s.l.length ≤ 9223372036854775807) ∧ gs = [KVs.g s] := by
  obtain ⟨k, k1, k2, rfl⟩ := h.sl_inv (fun _ => KV.inv)
  exact ⟨k, ⟨k1, k2⟩, rfl⟩
/-- Two whole numbers. -/
def I2.c (x : Int × Int) : List GV := [.int .i64 x.1, .int .i64 x.2]
theorem ti2_inv {gs : List GV} (h : HasTy (.p (.i .i64) (.p (.i .i64) .u)) gs) : ∃ x : Int × Int, (I64 x.1 ∧ I64 x.2) ∧ gs = I2.c x := by
  obtain ⟨_, _, rfl, ⟨a, rfl, ha⟩, _, _, rfl, ⟨b, rfl, hb⟩, rfl⟩ := h
  exact ⟨(a, b), ⟨ha, hb⟩, rfl⟩

structure Call where
  on : Bool
  req : Req
  sent : Int
  next : Int
  tries : Int
def Call.c (x : Call) : List GV := .bool x.on :: (x.req.c ++ [.int .i64 x.sent, .int .i64 x.next, .int .i64 x.tries])
def Call.wf (x : Call) : Prop := x.req.wf ∧ I64 x.sent ∧ I64 x.next ∧ I64 x.tries
abbrev tCall : GTy := .p .b (.p tReq (.p (.i .i64) (.p (.i .i64) (.p (.i .i64) .u))))
theorem Call.inv {gs : List GV} (h : HasTy tCall gs) : ∃ x : Call, x.wf ∧ gs = x.c := by
  obtain ⟨_, _, rfl, ⟨a, rfl⟩, _, _, rfl, hr, _, _, rfl, ⟨b, rfl, hb⟩, _, _, rfl, ⟨c, rfl, hc⟩, _, _, rfl, ⟨d, rfl, hd⟩, rfl⟩ := h
  obtain ⟨r, hw, rfl⟩ := Req.inv hr
  exact ⟨⟨a, r, b, c, d⟩, ⟨hw, hb, hc, hd⟩, by simp [Call.c]⟩

def A (gs : List GV) : AV := .agg (gs.map .g)
abbrev I (n : Int) : AV := .g (.int .i64 n)
abbrev U (n : Int) : AV := .g (.int .u64 n)
abbrev B (b : Bool) : AV := .g (.bool b)
abbrev T (s : Bs) : AV := .g (.str s)

end Go.AM
end

section
set_option linter.unusedSimpArgs false
set_option linter.unusedVariables false
namespace Go.AM
open Go

theorem loopE_kp (E : FnS) (h : List Blk) (c : IC) (lv : List Nat) (s s' : St) (hs : kpN lv (evCode E h c s) = some (.normal, s')) : loopE E h c lv s = loopE E h c lv s' := by
  rw [loopE_eq]
  rcases hq : evCode E h c s with _ | ⟨e, t⟩
  · rw [hq] at hs; cases hs
  · rw [hq] at hs
    cases e
    · simp only [kpN_normal, Option.some.injEq, Prod.mk.injEq, true_and] at hs
      rw [sk_normal, hs]
    · simp only [kpN_exit, Option.some.injEq, Prod.mk.injEq] at hs
      cases hs.1
    · simp only [kpN_ret, Option.some.injEq, Prod.mk.injEq] at hs
      cases hs.1

theorem loopE_out (E : FnS) (h : List Blk) (c : IC) (lv : List Nat) (s : St) (r : Ex × St) (hr : r.1 ≠ .normal) (hs : kpN lv (evCode E h c s) = some r) : loopE E h c lv s = some r := by
  rw [loopE_eq]
  rcases hq : evCode E h c s with _ | ⟨e, t⟩
  · rw [hq] at hs; cases hs
  · rw [hq] at hs
    cases e
    · simp only [kpN_normal, Option.some.injEq] at hs
      subst hs
      exact absurd rfl hr
    · rw [sk_exit]; exact hs
    · rw [sk_ret]; exact hs

/-- Do all things of a list? (A word that simp leaves alone.) -/
def allP {α : Type} (p : α → Bool) (l : List α) : Bool := l.all p
@[simp] theorem allP_nil {α : Type} (p : α → Bool) : allP p [] = true := rfl
theorem allP_cons {α : Type} (p : α → Bool) (x : α) (l : List α) : allP p (x :: l) = (p x && allP p l) := rfl
theorem allP_iff {α : Type} {p : α → Bool} {l : List α} : allP p l = true ↔ ∀ x ∈ l, p x = true := by simp [allP]

section
variable {E : FnS} {h : List Blk} {c : IC} {lv : List Nat} {α : Type}

/-- A loop with so many rounds to come, by a measure: its state is told by a number. -/
theorem loop_all {l : List α} (p : α → Bool) (S : Nat → St) (fin bad : Ex × St) (hfin : fin.1 ≠ .normal) (hbad : bad.1 ≠ .normal)
    (hstep : ∀ k x (hk : k < l.length), l[k]? = some x → l[k] = x → kpN lv (evCode E h c (S k)) = if p x = true then some (.normal, S (k + 1)) else some bad)
    (hend : kpN lv (evCode E h c (S l.length)) = some fin) (d : Nat) : ∀ k, l.length - k = d → k ≤ l.length → loopE E h c lv (S k) = some (if allP p (l.drop k) = true then fin else bad) := by
  induction d with
  | zero =>
    intro k hd hk
    have : k = l.length := by omega
    subst this
    rw [loopE_out E h c lv _ fin hfin hend]
    simp
  | succ d ih =>
    intro k hd hk
    have hlt : k < l.length := by omega
    have h1 := hstep k l[k] hlt (List.getElem?_eq_getElem hlt) rfl
    rw [List.drop_eq_getElem_cons hlt]
    by_cases hp : p l[k] = true
    · rw [if_pos hp] at h1
      rw [loopE_kp E h c lv _ _ h1, ih (k + 1) (by omega) (by omega), allP_cons, hp, Bool.true_and]
    · rw [if_neg hp] at h1
      rw [loopE_out E h c lv _ bad hbad h1, allP_cons, Bool.eq_false_iff.2 hp, Bool.false_and]
      simp

theorem loop_all0 {l : List α} (p : α → Bool) (S : Nat → St) (fin bad : Ex × St) (hfin : fin.1 ≠ .normal) (hbad : bad.1 ≠ .normal)
    (hstep : ∀ k x (hk : k < l.length), l[k]? = some x → l[k] = x → kpN lv (evCode E h c (S k)) = if p x = true then some (.normal, S (k + 1)) else some bad)
    (hend : kpN lv (evCode E h c (S l.length)) = some fin) : loopE E h c lv (S 0) = some (if allP p l = true then fin else bad) := by
  have := loop_all p S fin bad hfin hbad hstep hend l.length 0 (by omega) (by omega)
  simpa using this

/-- What a walk through a list comes to: the rest's state, or how it ended. -/
def runL {β : Type} (step : Nat → α → β → β ⊕ (Ex × St)) : Nat → List α → β → β ⊕ (Ex × St)
  | _, [], b => .inl b
  | k, x :: l, b => match step k x b with
    | .inl b' => runL step (k + 1) l b'
    | .inr r => .inr r

/-- How a walk ends. -/
def endL {β : Type} (fin : β → Ex × St) : β ⊕ (Ex × St) → Ex × St
  | .inl b => fin b
  | .inr r => r

theorem loop_run {β : Type} {l : List α} (Inv : Nat → β → Prop) (step : Nat → α → β → β ⊕ (Ex × St)) (S : Nat → β → St) (fin : β → Ex × St) (hfin : ∀ b, (fin b).1 ≠ .normal)
    (hstep : ∀ k x b (hk : k < l.length), l[k]? = some x → l[k] = x → Inv k b → match step k x b with
      | .inl b' => Inv (k + 1) b' ∧ kpN lv (evCode E h c (S k b)) = some (.normal, S (k + 1) b')
      | .inr r => r.1 ≠ .normal ∧ kpN lv (evCode E h c (S k b)) = some r)
    (hend : ∀ b, Inv l.length b → kpN lv (evCode E h c (S l.length b)) = some (fin b)) (d : Nat) : ∀ k b, l.length - k = d → k ≤ l.length → Inv k b →
      loopE E h c lv (S k b) = some (endL fin (runL step k (l.drop k) b)) := by
  induction d with
  | zero =>
    intro k b hd hk hi
    have : k = l.length := by omega
    subst this
    rw [loopE_out E h c lv _ _ (hfin b) (hend b hi)]
    simp [runL, endL]
  | succ d ih =>
    intro k b hd hk hi
    have hlt : k < l.length := by omega
    have h1 := hstep k l[k] b hlt (List.getElem?_eq_getElem hlt) rfl hi
    rw [List.drop_eq_getElem_cons hlt]
    simp only [runL]
    split at h1
    · rename_i b' hb
      rw [loopE_kp E h c lv _ _ h1.2, ih (k + 1) b' (by omega) (by omega) h1.1]
    · rename_i r hb
      rw [loopE_out E h c lv _ r h1.1 h1.2]; rfl

/-- What a walk comes to. -/
def runG {β γ : Type} (step : Nat → α → β → β ⊕ γ) : Nat → List α → β → β ⊕ γ
  | _, [], b => .inl b
  | k, x :: l, b => match step k x b with
    | .inl b' => runG step (k + 1) l b'
    | .inr r => .inr r

/-- How it ends, blocks being left behind that nobody asks for. -/
def endJ {β γ : Type} (fin : β → List Blk → Ex × St) (out : γ → List Blk → Ex × St) (o : List Blk) : β ⊕ γ → Ex × St
  | .inl b => fin b o
  | .inr g => out g o

/-- A walk that leaves blocks behind. -/
theorem loop_runJ {β γ : Type} {l : List α} (Inv : Nat → β → Prop) (step : Nat → α → β → β ⊕ γ) (S : Nat → β → List Blk → St) (fin : β → List Blk → Ex × St) (out : γ → List Blk → Ex × St)
    (hfin : ∀ b o, (fin b o).1 ≠ .normal) (hout : ∀ g o, (out g o).1 ≠ .normal)
    (hstep : ∀ k x b o (hk : k < l.length), l[k]? = some x → l[k] = x → Inv k b → match step k x b with
      | .inl b' => Inv (k + 1) b' ∧ ∃ o', kpN lv (evCode E h c (S k b o)) = some (.normal, S (k + 1) b' o')
      | .inr g => ∃ o', kpN lv (evCode E h c (S k b o)) = some (out g o'))
    (hend : ∀ b o, Inv l.length b → kpN lv (evCode E h c (S l.length b o)) = some (fin b o)) (b : β) (o : List Blk) (hb : Inv 0 b) :
      ∃ o', loopE E h c lv (S 0 b o) = some (endJ fin out o' (runG step 0 l b)) := by
  have key : ∀ d k b o, l.length - k = d → k ≤ l.length → Inv k b → ∃ o', loopE E h c lv (S k b o) = some (endJ fin out o' (runG step k (l.drop k) b)) := by
    intro d
    induction d with
    | zero =>
      intro k b o hd hk hi
      have : k = l.length := by omega
      subst this
      refine ⟨o, ?_⟩
      rw [loopE_out E h c lv _ _ (hfin b o) (hend b o hi)]
      simp [runG, endJ]
    | succ d ih =>
      intro k b o hd hk hi
      have hlt : k < l.length := by omega
      have h1 := hstep k l[k] b o hlt (List.getElem?_eq_getElem hlt) rfl hi
      rw [List.drop_eq_getElem_cons hlt]
      simp only [runG]
      split at h1
      · rename_i b' hb'
        obtain ⟨h2, o', h3⟩ := h1
        obtain ⟨o2, h4⟩ := ih (k + 1) b' o' (by omega) (by omega) h2
        exact ⟨o2, by rw [loopE_kp E h c lv _ _ h3, h4]⟩
      · rename_i g hg
        obtain ⟨o', h3⟩ := h1
        exact ⟨o', by rw [loopE_out E h c lv _ _ (hout g o') h3]; rfl⟩
  have := key l.length 0 b o (by omega) (by omega) hb
  simpa using this

/-- A walk that goes to the end: what is kept goes on by each thing. -/
theorem loop_fold {β : Type} {l : List α} (Inv : Nat → β → Prop) (f : β → α → β) (S : Nat → β → St) (fin : β → Ex × St) (hfin : ∀ b, (fin b).1 ≠ .normal)
    (hstep : ∀ k x b (hk : k < l.length), l[k]? = some x → l[k] = x → Inv k b → Inv (k + 1) (f b x) ∧ kpN lv (evCode E h c (S k b)) = some (.normal, S (k + 1) (f b x)))
    (hend : ∀ b, Inv l.length b → kpN lv (evCode E h c (S l.length b)) = some (fin b)) (b : β) (hb : Inv 0 b) :
      loopE E h c lv (S 0 b) = some (fin (l.foldl f b)) := by
  have := loop_run (l := l) (lv := lv) (c := c) (E := E) (h := h) Inv (fun k x b => .inl (f b x)) S fin hfin hstep hend l.length 0 b (by omega) (by omega) hb
  rw [this]
  have key : ∀ (l : List α) k b, runL (fun k x b => (.inl (f b x) : β ⊕ (Ex × St))) k l b = .inl (l.foldl f b) := by
    intro l
    induction l with
    | nil => intro k b; rfl
    | cons x l ih => intro k b; simp only [runL, ih, List.foldl_cons]
  simp [key, endL]

/-- A walk to the end, by the count alone. -/
theorem loop_cnt (n : Nat) (S : Nat → St) (fin : Ex × St) (hfin : fin.1 ≠ .normal) (hstep : ∀ k, k < n → kpN lv (evCode E h c (S k)) = some (.normal, S (k + 1)))
    (hend : kpN lv (evCode E h c (S n)) = some fin) : loopE E h c lv (S 0) = some fin := by
  have key : ∀ d k, n - k = d → k ≤ n → loopE E h c lv (S k) = some fin := by
    intro d
    induction d with
    | zero =>
      intro k hd hk
      have : k = n := by omega
      subst this
      exact loopE_out E h c lv _ fin hfin hend
    | succ d ih =>
      intro k hd hk
      rw [loopE_kp E h c lv _ _ (hstep k (by omega)), ih (k + 1) (by omega) (by omega)]
  exact key n 0 (by omega) (by omega)

/-- A loop by a number that falls. -/
theorem loop_meas {β : Type} (m : β → Nat) (Inv : β → Prop) (S : β → St) (res : β → Ex × St)
    (hstep : ∀ b, Inv b → (∃ b', m b' < m b ∧ Inv b' ∧ res b = res b' ∧ kpN lv (evCode E h c (S b)) = some (.normal, S b')) ∨ ((res b).1 ≠ .normal ∧ kpN lv (evCode E h c (S b)) = some (res b))) :
    ∀ (n : Nat) (b : β), m b ≤ n → Inv b → loopE E h c lv (S b) = some (res b) := by
  intro n
  induction n with
  | zero =>
    intro b hm hi
    rcases hstep b hi with ⟨b', h1, _⟩ | ⟨h1, h2⟩
    · omega
    · exact loopE_out E h c lv _ _ h1 h2
  | succ n ih =>
    intro b hm hi
    rcases hstep b hi with ⟨b', h1, h2, h3, h4⟩ | ⟨h1, h2⟩
    · rw [loopE_kp E h c lv _ _ h4, h3]
      exact ih b' (by omega) h2
    · exact loopE_out E h c lv _ _ h1 h2
end

theorem fills_nil (s : St) (cs : List AV) : fills s cs [] = some cs := by simp only [fills]
theorem fills_cons (s : St) (cs : List AV) (off n : Nat) (x : Opd) (r : List (Nat × Nat × Opd)) : fills s cs ((off, n, x) :: r) = ob (val s x) fun v => ob v.cellsO fun vs => ob (fillA cs off n vs) fun cs' => fills s cs' r := by
  simp only [fills]
  rcases val s x with _ | v
  · rfl
  · simp only [ob]
    rcases v.cellsO with _ | vs
    · rfl
    · simp only; cases fillA cs off n vs <;> rfl
attribute [simp] zres zplain fills_nil fills_cons fillA AV.cells foldV mx2 mn2

/-- A counter goes on. -/
theorem wrap_succ {k n : Nat} (h : k < n) (hn : n ≤ 9223372036854775807) : IntKind.i64.wrap ((k : Int) + 1) = (k : Int) + 1 := by rw [wrap_i64 (by omega) (by omega)]

end Go.AM
end

