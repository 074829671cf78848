/- What the evaluator says, the machine does: a region that draws its order. -/
import Derived.Test.YtahjgmldkbbpaaaAMSnd3
set_option linter.unusedSimpArgs false
set_option linter.unusedVariables false
namespace Go.AM
open Go

/-- The number of allocs ahead of an operation of a region. -/
def allocNo (ops : Array Oper) (i : Nat) : Nat :=
  ((ops.toList.take i).filter fun o => match o.op with | .alloc _ => true | _ => false).length

def cDrw (P : Program) (nt : Nat) (ops : Array Oper) (i : Nat) : Option AOper :=
  match ops[i]? with
  | some o => cOper P nt ops (some (allocNo ops i)) o
  | none => none

def takeable (ld : Bool) (o : AOper) : Bool :=
  !o.op.acts && (match o.op with
    | .call .. | .row .. => false
    | .load .. => ld
    | _ => true)

def takeB (P : Program) (nt : Nat) (ops : Array Oper) (ld : Bool) (listed : Array Bool) (i : Nat) : Bool :=
  match cDrw P nt ops i with
  | some o => takeable ld o && Region.free .any ops listed i
  | none => false

def cAll (f : Nat → Option Tree) (c : Nat → Option AOper) : List Nat → Option Tree
  | [] => none
  | i :: [] => match c i, f i with
    | some o, some t => some (.one o t)
    | _, _ => none
  | i :: r => match c i, f i, cAll f c r with
    | some o, some t, some r => some (.alt o t r)
    | _, _, _ => none

/-- Does an operation wait, by an edge, for another? -/
def waitsOn (ops : Array Oper) (j i : Nat) : Bool :=
  match ops[j]? with
  | some oj => oj.after.any fun e => Region.binds .any e && e.on == i
  | none => false

def isLdAt (ops : Array Oper) (i : Nat) : Bool :=
  match ops[i]? with
  | some o => isLd o.op
  | none => false

/-- May an operation come ahead of some load? -/
def ndB (ops : Array Oper) (j : Nat) : Bool := (List.range ops.size).any fun i => isLdAt ops i && !waitsOn ops j i

/-- Do all that are left wait for all loads? -/
def freed (ops : Array Oper) (listed : Array Bool) : Bool := (List.range ops.size).all fun j => listed.getD j true || !ndB ops j

/-- The ways of a region, so many operations being left; no load is among these. -/
def cTreeB (P : Program) (nt : Nat) (ops : Array Oper) : Nat → Array Bool → Option Tree
  | 0, listed => if (Region.ready .any ops listed).isEmpty = true then some .leaf else none
  | n + 1, listed =>
    if (Region.ready .any ops listed).isEmpty = true then some .leaf else
    match (Region.ready .any ops listed).find? (takeB P nt ops false listed) with
    | some i => match cDrw P nt ops i, cTreeB P nt ops n (listed.setIfInBounds i true) with
      | some o, some t => some (.take o t)
      | _, _ => none
    | none => cAll (fun i => cTreeB P nt ops n (listed.setIfInBounds i true)) (cDrw P nt ops) (Region.ready .any ops listed)

/-- The ways of a region, so many operations being left. -/
def cTree (P : Program) (nt : Nat) (ops : Array Oper) : Nat → Bool → Array Bool → Option Tree
  | 0, _, listed => if (Region.ready .any ops listed).isEmpty = true then some .leaf else none
  | n + 1, ld, listed =>
    if (Region.ready .any ops listed).isEmpty = true then some .leaf else
    if freed ops listed = true then (cTreeB P nt ops (n + 1) listed).map .free else
    match (Region.ready .any ops listed).find? (takeB P nt ops ld listed) with
    | some i => match cDrw P nt ops i, cTree P nt ops n ld (listed.setIfInBounds i true) with
      | some o, some t => some (.take o t)
      | _, _ => none
    | none => cAll (fun i => cTree P nt ops n false (listed.setIfInBounds i true)) (cDrw P nt ops) (Region.ready .any ops listed)

/-- Whatever order is picked, S being shown behind each operation that may come ahead of a load. -/
def wpAnyG (P : Program) (ops : Array Oper) (Q : Exit → Act → World → Prop) (S : World → Prop) : Nat → Array Bool → Act → World → Prop
  | 0, listed, a, w => Region.ready .any ops listed = [] ∧ Q .normal a w
  | fuel + 1, listed, a, w =>
    (Region.ready .any ops listed = [] → Q .normal a w) ∧
    ∀ i ∈ Region.ready .any ops listed, wpOp P ops Q i (fun a' w' => (ndB ops i = true → S w → S w') ∧ wpAnyG P ops Q S fuel (listed.setIfInBounds i true) a' w') a w

section
variable {P : Program} {ops : Array Oper} {Q : Exit → Act → World → Prop} {S : World → Prop}

theorem wpAny_of_G : ∀ (fuel : Nat) (listed : Array Bool) (a : Act) (w : World), wpAnyG P ops Q S fuel listed a w → wpAny P .any ops Q fuel listed a w
  | 0, _, _, _, h => h
  | fuel + 1, _, _, _, h => ⟨h.1, fun i hi => wpOp_mono (fun a' w' h' => wpAny_of_G fuel _ a' w' h'.2) (h.2 i hi)⟩

theorem freed_set {listed : Array Bool} {i : Nat} (h : freed ops listed = true) : freed ops (listed.setIfInBounds i true) = true := by
  simp only [freed, List.all_eq_true, List.mem_range, Bool.or_eq_true] at h ⊢
  intro j hj
  rcases h j hj with h | h
  · by_cases e : i = j
    · subst e
      left
      by_cases hlt : i < listed.size
      · simp [Array.getD_eq_getD_getElem?, hlt]
      · simp [Array.getD_eq_getD_getElem?, hlt]
    · left; rw [getD_set_ne true e]; exact h
  · exact .inr h

theorem freed_nd {listed : Array Bool} (h : freed ops listed = true) {i : Nat} (hi : i ∈ Region.ready .any ops listed) : ndB ops i = false := by
  simp only [freed, List.all_eq_true, List.mem_range, Bool.or_eq_true] at h
  obtain ⟨h1, o, h2, _⟩ := mem_ready.1 hi
  rcases h i (Array.getElem?_eq_some_iff.1 h2).1 with h3 | h3
  · rw [h1] at h3; cases h3
  · simpa using h3

theorem wpAnyG_of_any : ∀ (fuel : Nat) (listed : Array Bool) (a : Act) (w : World), freed ops listed = true → wpAny P .any ops Q fuel listed a w → wpAnyG P ops Q S fuel listed a w
  | 0, _, _, _, _, h => h
  | fuel + 1, _, _, _, hf, h => ⟨h.1, fun i hi => wpOp_mono (fun a' w' h' => ⟨fun hn => (by rw [freed_nd hf hi] at hn; cases hn), wpAnyG_of_any fuel _ a' w' (freed_set hf) h'⟩) (h.2 i hi)⟩

/-- One that may come up may be taken first: a load where S holds whenever it has not come up. -/
theorem wpAnyG_first {i : Nat} {oi : Oper} {v : Value} (hi : ops[i]? = some oi) (hsel : ∀ (j : Nat) (o : Oper) cs b, ops[j]? = some o → o.op ≠ .select cs b)
    (hQ : ∀ c a w, Q (.panic c) (a.put oi.dst v) w → Q (.panic c) a w) :
    ∀ (fuel : Nat) (listed : Array Bool) (a : Act) (w : World),
      (∀ j oj, ops[j]? = some oj → j ≠ i → listed.getD j true = false → (∀ e ∈ oj.after, Region.binds .any e = true → e.on ≠ i) → oi.apart ops oj = true) →
      i ∈ Region.ready .any ops listed → YieldsIf P ops (fun w' => isLd oi.op = true → S w') oi v a → S w →
      wpAnyG P ops Q S fuel (listed.setIfInBounds i true) (a.put oi.dst v) w → wpAnyG P ops Q S (fuel + 1) listed a w := by
  have main : ∀ (fuel : Nat) (listed : Array Bool) (a : Act) (w : World),
      (∀ j oj, ops[j]? = some oj → j ≠ i → listed.getD j true = false → (∀ e ∈ oj.after, Region.binds .any e = true → e.on ≠ i) → oi.apart ops oj = true) →
      i ∈ Region.ready .any ops listed → YieldsIf P ops (fun w' => isLd oi.op = true → S w') oi v a → (isLd oi.op = true → S w) →
      wpAnyG P ops Q S fuel (listed.setIfInBounds i true) (a.put oi.dst v) w → wpAnyG P ops Q S (fuel + 1) listed a w := by
    intro fuel
    induction fuel with
    | zero =>
      intro listed a w _ hr hy hS H
      refine ⟨fun h => (by rw [h] at hr; cases hr), fun j hj => ?_⟩
      by_cases hji : j = i
      · subst hji; exact hy.wpOp hi hS ⟨fun _ h => h, H⟩
      · have := ready_mono hj hji
        rw [H.1] at this
        cases this
    | succ fuel ih =>
      intro listed a w hfree hr hy hS H
      refine ⟨fun h => (by rw [h] at hr; cases hr), fun j hj => ?_⟩
      by_cases hji : j = i
      · subst hji; exact hy.wpOp hi hS ⟨fun _ h => h, H⟩
      · have hahead := H.2 j (ready_mono hj hji)
        obtain ⟨hjun, oj, hoj, hall⟩ := mem_ready.1 hj
        have hnot : ∀ e ∈ oj.after, Region.binds .any e = true → e.on ≠ i := by
          intro e he hb heq
          have hl := hall e he hb
          have hu := (mem_ready.1 hr).1
          rw [heq] at hl
          rcases Nat.lt_or_ge i listed.size with h' | h'
          · simp [h'] at hu hl; rw [hu] at hl; cases hl
          · simp [Array.getElem?_eq_none h'] at hl
        have hnd : isLd oi.op = true → ndB ops j = true := fun hl => by
          simp only [ndB, List.any_eq_true, List.mem_range, Bool.and_eq_true]
          refine ⟨i, (Array.getElem?_eq_some_iff.1 hi).1, by simp [isLdAt, hi, hl], ?_⟩
          simp only [waitsOn, hoj, Bool.not_eq_true', Array.any_eq_false]
          intro k hk hb
          simp only [Bool.and_eq_true, beq_iff_eq] at hb
          exact hnot _ (Array.getElem_mem hk) hb.1 hb.2
        have hput := wpOp_putIf hoj (hfree j oj hoj hji hjun hnot) (fun cs b => hsel i oi cs b hi) (fun cs b => hsel j oj cs b hoj) hQ hy hahead
        refine wpOp_mono (fun a' w' k => ⟨k.2.1, ih (listed.setIfInBounds j true) a' w' (fun m om hm hmi hun hno => hfree m om hm hmi ?_ hno) (ready_mono hr (Ne.symm hji)) k.1
          (fun hl => k.2.1 (hnd hl) (hS hl)) ?_⟩) hput
        · by_cases hjm : j = m
          · subst hjm; exact hjun
          · rw [getD_set_ne true hjm] at hun; exact hun
        · rw [Array.setIfInBounds_comm _ _ hji]
          exact k.2.2
  exact fun fuel listed a w h1 h2 h3 h4 h5 => main fuel listed a w h1 h2 h3 (fun _ => h4) h5

theorem wpAnyG_take {i : Nat} {oi : Oper} {v : Value} {fuel : Nat} {listed : Array Bool} {a : Act} {w : World} (hi : ops[i]? = some oi)
    (hs : Region.noSelect ops = true) (hf : Region.free .any ops listed i = true) (hr : (Region.ready .any ops listed).contains i = true)
    (hQ : ∀ c a w, Q (.panic c) (a.put oi.dst v) w → Q (.panic c) a w) (hy : YieldsIf P ops (fun w' => isLd oi.op = true → S w') oi v a) (hS : S w)
    (h : wpAnyG P ops Q S fuel (listed.setIfInBounds i true) (a.put oi.dst v) w) : wpAnyG P ops Q S (fuel + 1) listed a w :=
  wpAnyG_first hi (Region.noSelect_spec hs) hQ fuel listed a w (Region.free_spec hi hf) (by simpa using hr) hy hS h

theorem wpAnyG_all {rs : List Nat} {fuel : Nat} {listed : Array Bool} {a : Act} {w : World} (hr : Region.ready .any ops listed = rs) (hne : rs ≠ [])
    (h : ∀ i ∈ rs, wpOp P ops Q i (fun a' w' => S w' ∧ wpAnyG P ops Q S fuel (listed.setIfInBounds i true) a' w') a w) : wpAnyG P ops Q S (fuel + 1) listed a w :=
  ⟨fun h0 => absurd (hr ▸ h0) hne, hr ▸ fun i hi => wpOp_mono (fun a' w' k => ⟨fun _ _ => k.1, k.2⟩) (h i hi)⟩

theorem wpAnyG_done {listed : Array Bool} {a : Act} {w : World} (hr : Region.ready .any ops listed = []) (h : Q .normal a w) :
    ∀ fuel, wpAnyG P ops Q S fuel listed a w
  | 0 => ⟨hr, h⟩
  | _ + 1 => ⟨fun _ => h, by rw [hr]; simp⟩

theorem wpAnyG_of_H : ∀ (fuel : Nat) (listed : Array Bool) (a : Act) (w : World), wpAnyH P .any ops Q S fuel listed a w → wpAnyG P ops Q S fuel listed a w
  | 0, _, _, _, h => h
  | fuel + 1, _, _, _, h => ⟨h.1, fun i hi => wpOp_mono (fun a' w' k => ⟨fun _ _ => k.1, wpAnyG_of_H fuel _ a' w' k.2⟩) (h.2 i hi)⟩
end

section
variable {P : Program} {w0 w w' : World} {L0 L L' : Nat → Lc} {h : List Blk} {nt : Nat} {s s' : St} {a : Act}

/-- The blocks that are held are as they were. -/
structure HS (E1 : Env) (hd : List Nat) (w : World) (H : List Blk) (L : Nat → Lc) : Prop where
  sees : Sees E1 hd w
  ext : Ext E1 (envOf w H L)
  live : ∀ i, i ∈ hd → Live H i ∧ L i = E1.L i

theorem HS.step {E1 : Env} {hd ws : List Nat} {H H' : List Blk} (hh : HS E1 hd w H L) (hsame : Same w w' H L L' ws) (he : Ext (envOf w H L) (envOf w' H' L'))
    (hst : ∀ i, i ∉ ws → i < H.length → H'[i]? = H[i]?) (hws : (ws.all fun i => !hd.contains i) = true) : HS E1 hd w' H' L' := by
  have hn : ∀ i, i ∈ hd → i ∉ ws := fun i hi hm => by
    have := List.all_eq_true.1 hws i hm
    simp at this
    exact this hi
  refine ⟨fun b hb hor => ?_, hh.ext.trans he, fun i hi => ?_⟩
  · have h1 := hh.sees b hb hor
    rw [← h1]
    rcases hor with ho | ⟨id, hid, hL⟩
    · exact (he.keep b (Nat.lt_of_lt_of_le hb hh.ext.size) (hh.ext.keep b hb ho).2).1
    · obtain ⟨k1, k2⟩ := hh.live id hid
      have hlt : id < H.length := let ⟨x, hx, _⟩ := k1; (List.getElem?_eq_some_iff.1 hx).1
      exact (hsame id hlt (hn id hid)).2 k1 b (by rw [k2]; exact hL)
  · obtain ⟨⟨x, hx, lx⟩, k2⟩ := hh.live i hi
    have hlt : i < H.length := (List.getElem?_eq_some_iff.1 hx).1
    exact ⟨⟨x, by rw [hst i (hn i hi) hlt]; exact hx, lx⟩, (hsame i hlt (hn i hi)).1.trans k2⟩

theorem isLd_load {P : Program} {drw : Option Nat} {o : Oper} {ao : AOp} (hc : cOp P drw o = some ao) (hl : isLd o.op = true) : ∃ g n p, ao = .load g n p := by
  cases ho : o.op with
  | load t p =>
    simp only [cOp, ho, bind, Option.bind_eq_some_iff] at hc
    obtain ⟨g, _, n, _, hc⟩ := hc
    split at hc
    · simp only [Option.bind_eq_some_iff] at hc
      obtain ⟨p, _, hc⟩ := hc
      cases hc
      exact ⟨_, _, _, rfl⟩
    · cases hc
  | _ => rw [ho] at hl; simp [isLd] at hl

theorem takeB_spec {ops : Array Oper} {ld : Bool} {listed : Array Bool} {i : Nat} {ao : AOper} (hc : cDrw P nt ops i = some ao) (hb : takeB P nt ops ld listed i = true) :
    takeable ld ao = true ∧ Region.free .any ops listed i = true := by
  simpa [takeB, hc] using hb

theorem cDrw_spec {ops : Array Oper} {i : Nat} {ao : AOper} (hc : cDrw P nt ops i = some ao) : ∃ o, ops[i]? = some o ∧ cOper P nt ops (some (allocNo ops i)) o = some ao := by
  unfold cDrw at hc
  split at hc
  · rename_i o ho; exact ⟨o, ho, hc⟩
  · cases hc

/-- What is taken first. -/
theorem evTake_ok {E1 : Env} {S : World → Prop} {rs : List Nat} (hs : SR w0 L0 h nt s a w L) {ops : Array Oper} {o : Oper} {drw : Option Nat} {ao : AOper} (hc : cOper P nt ops drw o = some ao)
    (he : evTake h s ao = some (s', rs)) (hS : ∀ w', S w' → isLd o.op = true → Sees (envOf w (full h s) L) rs w') :
    ∃ cv, YieldsIf P ops S o cv a ∧ SR w0 L0 h nt s' (a.put o.dst cv) w L ∧ full h s' = full h s := by
  unfold cOper at hc
  split at hc
  case h_2 => cases hc
  rename_i g hg
  split at hc
  case isFalse => cases hc
  rename_i hd'
  cases hc
  unfold evTake at he
  simp only at he
  obtain ⟨s1, c, hs1, hm1, ho1, hw, hcase⟩ := gdo_ok hs hg he
  have hf1 : full h s1 = full h s := by unfold full; rw [hm1, ho1]
  rcases hcase with ⟨rfl, he⟩ | ⟨rfl, he⟩
  · obtain ⟨⟨v, rs'⟩, hv, he⟩ := ob_some he
    cases he
    obtain ⟨op, hop, hgd'⟩ : ∃ op, cOp P drw o = some op ∧ (cOp P drw o).getD (.row 0 []) = op := by
      cases hq : cOp P drw o with
      | none => rw [hq] at hv; cases hv
      | some op => exact ⟨op, rfl, rfl⟩
    rw [hgd'] at hv
    rw [← hf1] at hS
    obtain ⟨cv, h1, h2⟩ := evP_ok hs1.hr hs1.tr hop hv
    refine ⟨cv, .inl ⟨hw, fun w' hw' => h2 w' (fun hl => hS w' hw' hl)⟩, ?_, ?_⟩
    · exact hs1.go hd' hs1.hr rfl h1 (.refl _) (ws := []) (fun _ _ _ => ⟨rfl, fun _ _ _ => rfl⟩) (.refl _ _) (hlive_all h s1)
    · rw [← hf1]; cases o.dst <;> rfl
  · cases he
    refine ⟨undef, .inr ⟨hw, rfl⟩, ?_, ?_⟩
    · exact hs1.go hd' hs1.hr rfl .undef (.refl _) (ws := []) (fun _ _ _ => ⟨rfl, fun _ _ _ => rfl⟩) (.refl _ _) (hlive_all h s1)
    · rw [← hf1]; cases o.dst <;> rfl

variable {E : FnS} {ops : Array Oper} {Q : Exit → Act → World → Prop}

theorem takeable_ld {ops : Array Oper} {o : Oper} {drw : Option Nat} {ao : AOper} (hc : cOper P nt ops drw o = some ao) (ht : takeable false ao = true) : isLd o.op = false := by
  cases hl : isLd o.op with
  | false => rfl
  | true =>
    exfalso
    unfold cOper at hc
    split at hc
    case h_2 => cases hc
    split at hc
    case isFalse => cases hc
    cases hc
    cases hq : cOp P drw o with
    | none => rw [hq] at ht; simp [takeable, AOp.acts] at ht
    | some op =>
      obtain ⟨g, n, p, e⟩ := isLd_load hq hl
      subst e
      rw [hq] at ht
      simp [takeable, AOp.acts] at ht

theorem evTreeB_ok (hE : FnOk P E) (hsel : Region.noSelect ops = true) (hP : ∀ c a w, ¬ Q (.panic c) a w) {E1 : Env} {nb : Nat} {hd lv : List Nat} :
    ∀ (n : Nat) (listed : Array Bool) (t : Tree) (s : St) (a : Act) (w : World) (L : Nat → Lc), cTreeB P nt ops n listed = some t → SR w0 L0 h nt s a w L → HS E1 hd w (full h s) L →
      evTree E h nb lv hd t s = some s' → (∀ a' w' L', SR w0 L0 h nt s' a' w' L' → Q .normal a' w') → wpAnyH P .any ops Q (Sees E1 hd) n listed a w := by
  intro n
  induction n with
  | zero =>
    intro listed t s a w L hc hs hh he hQ
    simp only [cTreeB] at hc
    split at hc
    case isFalse => cases hc
    rename_i hr
    cases hc
    simp only [evTree] at he
    cases he
    exact wpAnyH_done (by simpa using hr) (hQ a w L (hs.kp lv)) 0
  | succ n ih =>
    intro listed t s a w L hc hs hh he hQ
    simp only [cTreeB] at hc
    split at hc
    · rename_i hr
      cases hc
      simp only [evTree] at he
      cases he
      exact wpAnyH_done (by simpa using hr) (hQ a w L (hs.kp lv)) _
    rename_i hne
    split at hc
    · rename_i i hfi
      split at hc
      case h_2 => cases hc
      rename_i ao t' hco hct
      cases hc
      obtain ⟨o, ho, hcc⟩ := cDrw_spec hco
      obtain ⟨htk, hfree⟩ := takeB_spec hco (List.find?_some hfi)
      simp only [evTree] at he
      split at he
      case h_2 => cases he
      rename_i s1 rs h1
      obtain ⟨cv, hy, hs1, hf⟩ := evTake_ok (E1 := E1) (S := Sees E1 hd) hs hcc h1 (fun w' _ hl => by rw [takeable_ld hcc htk] at hl; cases hl)
      refine wpAnyH_take ho hsel hfree (by simpa using List.mem_of_find?_eq_some hfi) (fun c a w hq => absurd hq (hP _ _ _)) hy hh.sees ?_
      exact ih _ t' s1 _ w L hct hs1 (by rw [hf]; exact hh) he hQ
    · refine wpAnyH_all rfl (by simpa using hne) ?_
      generalize Region.ready .any ops listed = l at hc
      have key : ∀ (l : List Nat) (t : Tree), cAll (fun i => cTreeB P nt ops n (listed.setIfInBounds i true)) (cDrw P nt ops) l = some t → evTree E h nb lv hd t s = some s' →
          ∀ i ∈ l, wpOp P ops Q i (fun a' w' => Sees E1 hd w' ∧ wpAnyH P .any ops Q (Sees E1 hd) n (listed.setIfInBounds i true) a' w') a w := by
        intro l
        have one : ∀ (i : Nat) (ao : AOper) (t : Tree) (s1 : St) (ws : List Nat), cDrw P nt ops i = some ao → cTreeB P nt ops n (listed.setIfInBounds i true) = some t →
            evOne E h nb hd s ao = some (s1, ws) → (ws.all fun i => !hd.contains i) = true → evTree E h nb lv hd t s1 = some s' →
            wpOp P ops Q i (fun a' w' => Sees E1 hd w' ∧ wpAnyH P .any ops Q (Sees E1 hd) n (listed.setIfInBounds i true) a' w') a w := by
          intro i ao t s1 ws hco hct h1 hws h2
          obtain ⟨o, ho, hcc⟩ := cDrw_spec hco
          refine evOne_ok hE hs ho hcc h1 fun a' w' L' k1 k2 k3 k4 => ?_
          have hh' := hh.step k2 k3 k4 hws
          exact ⟨hh'.sees, ih _ t s1 a' w' L' hct k1 hh' h2 hQ⟩
        induction l with
        | nil => intro t hc; cases hc
        | cons i r ihl =>
          intro t hc he
          cases r with
          | nil =>
            simp only [cAll] at hc
            split at hc
            case h_2 => cases hc
            rename_i ao t' hco hct
            cases hc
            simp only [evTree] at he
            split at he
            case h_2 => cases he
            rename_i s1 ws h1
            split at he
            case isFalse => cases he
            rename_i hws
            intro j hj
            simp at hj
            subst hj
            exact one j ao t' s1 ws hco hct h1 hws he
          | cons i2 r2 =>
            simp only [cAll] at hc
            split at hc
            case h_2 => cases hc
            rename_i ao t' r' hco hct hcr
            cases hc
            simp only [evTree] at he
            split at he
            case h_2 => cases he
            rename_i s1 ws h1
            split at he
            case isFalse => cases he
            rename_i hws
            split at he
            case h_2 => cases he
            rename_i x y hx hy
            split at he
            case isFalse => cases he
            rename_i hxy
            subst hxy
            cases he
            intro j hj
            rcases List.mem_cons.1 hj with rfl | hj
            · exact one j ao t' s1 ws hco hct h1 hws hx
            · exact ihl r' (by simpa only [cAll] using hcr) hy j hj
      exact key l t hc he

theorem evTree_ok (hE : FnOk P E) (hsel : Region.noSelect ops = true) (hP : ∀ c a w, ¬ Q (.panic c) a w) {E1 : Env} {nb : Nat} {hd lv : List Nat} :
    ∀ (n : Nat) (listed : Array Bool) (t : Tree) (s : St) (a : Act) (w : World) (L : Nat → Lc), cTree P nt ops n false listed = some t → SR w0 L0 h nt s a w L → HS E1 hd w (full h s) L →
      evTree E h nb lv hd t s = some s' → (∀ a' w' L', SR w0 L0 h nt s' a' w' L' → Q .normal a' w') → wpAnyG P ops Q (Sees E1 hd) n listed a w := by
  intro n
  induction n with
  | zero =>
    intro listed t s a w L hc hs hh he hQ
    simp only [cTree] at hc
    split at hc
    case isFalse => cases hc
    rename_i hr
    cases hc
    simp only [evTree] at he
    cases he
    exact wpAnyG_done (by simpa using hr) (hQ a w L (hs.kp lv)) 0
  | succ n ih =>
    intro listed t s a w L hc hs hh he hQ
    simp only [cTree] at hc
    split at hc
    · rename_i hr
      cases hc
      simp only [evTree] at he
      cases he
      exact wpAnyG_done (by simpa using hr) (hQ a w L (hs.kp lv)) _
    rename_i hne
    split at hc
    · rename_i hfr
      cases hq : cTreeB P nt ops (n + 1) listed with
      | none => rw [hq] at hc; cases hc
      | some t' =>
        rw [hq] at hc
        cases hc
        simp only [evTree] at he
        refine wpAnyG_of_any _ _ _ _ hfr (wpAny_of_held _ _ _ _ (evTreeB_ok hE hsel hP (E1 := envOf w (full h s) L) (hd := []) (n + 1) listed t' s a w L hq hs ?_ he hQ))
        exact ⟨.self _ _, .refl _, fun i hi => by cases hi⟩
    split at hc
    · rename_i i hfi
      split at hc
      case h_2 => cases hc
      rename_i ao t' hco hct
      cases hc
      obtain ⟨o, ho, hcc⟩ := cDrw_spec hco
      obtain ⟨htk, hfree⟩ := takeB_spec hco (List.find?_some hfi)
      simp only [evTree] at he
      split at he
      case h_2 => cases he
      rename_i s1 rs h1
      obtain ⟨cv, hy, hs1, hf⟩ := evTake_ok (E1 := E1) (S := fun w' => isLd o.op = true → Sees E1 hd w') hs hcc h1 (fun w' _ hl => by rw [takeable_ld hcc htk] at hl; cases hl)
      refine wpAnyG_take ho hsel hfree (by simpa using List.mem_of_find?_eq_some hfi) (fun c a w hq => absurd hq (hP _ _ _)) hy hh.sees ?_
      exact ih _ t' s1 _ w L hct hs1 (by rw [hf]; exact hh) he hQ
    · refine wpAnyG_all rfl (by simpa using hne) ?_
      generalize Region.ready .any ops listed = l at hc
      have key : ∀ (l : List Nat) (t : Tree), cAll (fun i => cTree P nt ops n false (listed.setIfInBounds i true)) (cDrw P nt ops) l = some t → evTree E h nb lv hd t s = some s' →
          ∀ i ∈ l, wpOp P ops Q i (fun a' w' => Sees E1 hd w' ∧ wpAnyG P ops Q (Sees E1 hd) n (listed.setIfInBounds i true) a' w') a w := by
        intro l
        have one : ∀ (i : Nat) (ao : AOper) (t : Tree) (s1 : St) (ws : List Nat), cDrw P nt ops i = some ao → cTree P nt ops n false (listed.setIfInBounds i true) = some t →
            evOne E h nb hd s ao = some (s1, ws) → (ws.all fun i => !hd.contains i) = true → evTree E h nb lv hd t s1 = some s' →
            wpOp P ops Q i (fun a' w' => Sees E1 hd w' ∧ wpAnyG P ops Q (Sees E1 hd) n (listed.setIfInBounds i true) a' w') a w := by
          intro i ao t s1 ws hco hct h1 hws h2
          obtain ⟨o, ho, hcc⟩ := cDrw_spec hco
          refine evOne_ok hE hs ho hcc h1 fun a' w' L' k1 k2 k3 k4 => ?_
          have hh' := hh.step k2 k3 k4 hws
          exact ⟨hh'.sees, ih _ t s1 a' w' L' hct k1 hh' h2 hQ⟩
        induction l with
        | nil => intro t hc; cases hc
        | cons i r ihl =>
          intro t hc he
          cases r with
          | nil =>
            simp only [cAll] at hc
            split at hc
            case h_2 => cases hc
            rename_i ao t' hco hct
            cases hc
            simp only [evTree] at he
            split at he
            case h_2 => cases he
            rename_i s1 ws h1
            split at he
            case isFalse => cases he
            rename_i hws
            intro j hj
            simp at hj
            subst hj
            exact one j ao t' s1 ws hco hct h1 hws he
          | cons i2 r2 =>
            simp only [cAll] at hc
            split at hc
            case h_2 => cases hc
            rename_i ao t' r' hco hct hcr
            cases hc
            simp only [evTree] at he
            split at he
            case h_2 => cases he
            rename_i s1 ws h1
            split at he
            case isFalse => cases he
            rename_i hws
            split at he
            case h_2 => cases he
            rename_i x y hx hy
            split at he
            case isFalse => cases he
            rename_i hxy
            subst hxy
            cases he
            intro j hj
            rcases List.mem_cons.1 hj with rfl | hj
            · exact one j ao t' s1 ws hco hct h1 hws hx
            · exact ihl r' (by simpa only [cAll] using hcr) hy j hj
      exact key l t hc he

theorem sees_mono {E1 : Env} {hd hd' : List Nat} (hsub : ∀ i, i ∈ hd → i ∈ hd') {w : World} (hw : Sees E1 hd' w) : Sees E1 hd w :=
  fun b hb ho => hw b hb (ho.imp id fun ⟨i, hi, hL⟩ => ⟨i, hsub i hi, hL⟩)

theorem evLead_ok (hE : FnOk P E) (hsel : Region.noSelect ops = true) (hP : ∀ c a w, ¬ Q (.panic c) a w) {nb : Nat} {lv : List Nat} (hQ : ∀ a' w' L', SR w0 L0 h nt s' a' w' L' → Q .normal a' w') :
    ∀ (n : Nat) (listed : Array Bool) (t : Tree) (s : St) (hd : List Nat) (a : Act) (w : World) (L : Nat → Lc), cTree P nt ops n true listed = some t → SR w0 L0 h nt s a w L →
      evLead E h nb lv hd t s = some s' → ∃ hdF, (∀ i, i ∈ hd → i ∈ hdF) ∧ wpAnyG P ops Q (Sees (envOf w (full h s) L) hdF) n listed a w := by
  intro n
  have stop : ∀ (n : Nat) (listed : Array Bool) (t : Tree) (s : St) (hd : List Nat) (a : Act) (w : World) (L : Nat → Lc), cTree P nt ops n false listed = some t → SR w0 L0 h nt s a w L →
      (if (hd.all (isLiveB (full h s))) = true then evTree E h nb lv hd t s else none) = some s' → ∃ hdF, (∀ i, i ∈ hd → i ∈ hdF) ∧ wpAnyG P ops Q (Sees (envOf w (full h s) L) hdF) n listed a w := by
    intro n listed t s hd a w L hc hs he
    split at he
    case isFalse => cases he
    rename_i hl
    exact ⟨hd, fun _ h => h, evTree_ok hE hsel hP n listed t s a w L hc hs ⟨.self _ _, .refl _, fun i hi => ⟨isLiveB_iff.1 (List.all_eq_true.1 hl i hi), rfl⟩⟩ he hQ⟩
  induction n with
  | zero =>
    intro listed t s hd a w L hc hs he
    simp only [cTree] at hc
    split at hc
    case isFalse => cases hc
    rename_i hr
    cases hc
    exact stop 0 listed .leaf s hd a w L (by simp only [cTree]; rw [if_pos hr]) hs (by simpa only [evLead] using he)
  | succ n ih =>
    intro listed t s hd a w L hc hs he
    simp only [cTree] at hc
    split at hc
    · rename_i hr
      cases hc
      exact stop (n + 1) listed .leaf s hd a w L (by simp only [cTree]; rw [if_pos hr]) hs (by simpa only [evLead] using he)
    rename_i hne
    split at hc
    · rename_i hfr
      cases hq : cTreeB P nt ops (n + 1) listed with
      | none => rw [hq] at hc; cases hc
      | some t' =>
        rw [hq] at hc
        cases hc
        refine stop (n + 1) listed (.free t') s hd a w L (by simp only [cTree]; rw [if_neg hne, if_pos hfr, hq]; rfl) hs (by simpa only [evLead] using he)
    rename_i hnfr
    split at hc
    · rename_i i hfi
      split at hc
      case h_2 => cases hc
      rename_i ao t' hco hct
      cases hc
      obtain ⟨o, ho, hcc⟩ := cDrw_spec hco
      obtain ⟨htk, hfree⟩ := takeB_spec hco (List.find?_some hfi)
      simp only [evLead] at he
      split at he
      case h_2 => cases he
      rename_i s1 rs h1
      have hf0 : full h s1 = full h s ∧ True := ⟨by
        obtain ⟨cv, hy, hs1, hf⟩ := evTake_ok (E1 := envOf w (full h s) L) (S := fun _ => False) hs hcc h1 (fun w' hw' _ => hw'.elim)
        exact hf, trivial⟩
      obtain ⟨cv0, _, hs0, hf⟩ := evTake_ok (E1 := envOf w (full h s) L) (S := fun _ => False) hs hcc h1 (fun w' hw' _ => hw'.elim)
      have h2 := ih (listed.setIfInBounds i true) t' s1 (rs ++ hd)
      have : ∃ hdF, (∀ i, i ∈ rs ++ hd → i ∈ hdF) ∧ ∃ cv, YieldsIf P ops (fun w' => isLd o.op = true → Sees (envOf w (full h s) L) hdF w') o cv a ∧ wpAnyG P ops Q (Sees (envOf w (full h s) L) hdF) n (listed.setIfInBounds i true) (a.put o.dst cv) w := by
        obtain ⟨cv, hy, hs1, _⟩ := evTake_ok (E1 := envOf w (full h s) L) (S := fun w' => isLd o.op = true → Sees (envOf w (full h s) L) rs w') hs hcc h1 (fun w' hw' hl => hw' hl)
        obtain ⟨hdF, k1, k2⟩ := h2 (a.put o.dst cv) w L hct hs1 he
        rw [hf] at k2
        refine ⟨hdF, k1, cv, ?_, k2⟩
        rcases hy with ⟨y1, y2⟩ | y
        · exact .inl ⟨y1, fun w' hw' => y2 w' (fun hl => sees_mono (fun i hi => k1 i (List.mem_append.2 (.inl hi))) (hw' hl))⟩
        · exact .inr y
      obtain ⟨hdF, k1, cv, hy, k2⟩ := this
      refine ⟨hdF, fun i hi => k1 i (List.mem_append.2 (.inr hi)), ?_⟩
      exact wpAnyG_take ho hsel hfree (by simpa using List.mem_of_find?_eq_some hfi) (fun c a w hq => absurd hq (hP _ _ _)) hy (.self _ _) k2
    · rename_i hno
      have hno' : (Region.ready .any ops listed).find? (takeB P nt ops false listed) = none := by
        rw [List.find?_eq_none] at hno ⊢
        intro i hi hb
        refine hno i hi ?_
        unfold takeB at hb ⊢
        split at hb
        · simp only [Bool.and_eq_true] at hb ⊢
          refine ⟨?_, hb.2⟩
          have := hb.1
          unfold takeable at this ⊢
          simp only [Bool.and_eq_true] at this ⊢
          refine ⟨this.1, ?_⟩
          have h2 := this.2
          split at h2 <;> first | (cases h2; done) | rfl | (split <;> simp_all)
        · cases hb
      refine stop (n + 1) listed t s hd a w L (by simp only [cTree]; rw [if_neg hne, if_neg hnfr, hno']; exact hc) hs ?_
      generalize Region.ready .any ops listed = l at hc
      cases t with
      | take o t =>
        exfalso
        cases l with
        | nil => cases hc
        | cons i r => cases r <;> (simp only [cAll] at hc; split at hc <;> cases hc)
      | _ => simpa only [evLead] using he

/-- A region that draws. -/
theorem evDrw_ok (hE : FnOk P E) (hm : P.follows .mixedOrders = true) (hsel : Region.noSelect ops = true) (hP : ∀ c a w, ¬ Q (.panic c) a w) {id nb : Nat} {lv : List Nat} {t : Tree}
    (hc : cTree P nt ops ops.size true (Array.replicate ops.size false) = some t) (hs : SR w0 L0 h nt s a w L)
    (he : evLead E h (h.length + s.o.length) lv [] t (pends s nb) = some s') (hQ : ∀ a' w' L', SR w0 L0 h nt s' a' w' L' → Q .normal a' w') : (Code.region id ops true).wp P Q a w := by
  have hs1 : SR w0 L0 h nt s a { w with drawn := w.drawn + 1 } L := by
    obtain ⟨h1, h2⟩ := hs.hr.grow (Grows.drew w (w.drawn + 1))
    exact ⟨h1, hs.tr.mono h2, hs.df, hs.sz, hs.ext.trans h2, fun id hid hn => hs.same id hid hn⟩
  have hs2 : ∀ (nb : Nat) , ∃ L', SR w0 L0 h nt (pends s nb) a { w with drawn := w.drawn + 1 } L' := by
    intro nb
    induction nb with
    | zero => exact ⟨L, by simpa [pends] using hs1⟩
    | succ nb ih =>
      obtain ⟨L', hs'⟩ := ih
      have hf : full h (pends s (nb + 1)) = full h (pends s nb) ++ [.pend] := by
        simp [full, pends, List.replicate_succ']
      obtain ⟨k1, k2, k3⟩ := hs'.hr.add_same (Grows.refl _) .pend ⟨none, 0, 0, false⟩ (by simp) (fun _ => by
        refine ⟨?_, ?_, ?_⟩
        · show ((updL L' _ _) _).st = false; rw [updL_self]
        · show ((updL L' _ _) _).gen = 0; rw [updL_self]
        · show ((updL L' _ _) _).blk = none; rw [updL_self]) []
      rw [← hf] at k1 k2
      refine ⟨_, k1, hs'.tr.mono k2, hs'.df, hs'.sz, hs'.ext.trans k2, fun i hi hn => ?_⟩
      obtain ⟨j1, j2⟩ := hs'.same i hi hn
      have hi' : i < (full h (pends s nb)).length := by rw [full_length]; show i < h.length + (pends s nb).o.length; omega
      exact ⟨by rw [updL_ne _ _ _ (by omega)]; exact j1, j2⟩
  obtain ⟨L1, hs3⟩ := hs2 nb
  obtain ⟨hdF, _, k⟩ := evLead_ok hE hsel hP hQ ops.size _ t _ [] a _ L1 hc hs3 he
  exact wp_region_any hm (wpAny_of_G _ _ _ _ k)

end
end Go.AM
