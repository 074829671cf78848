/- What the evaluator says, the machine does: one operation. -/
import Derived.Test.YtahjgmldkbbpaaaAMSnd1
set_option linter.unusedSimpArgs false
set_option linter.unusedVariables false
namespace Go.AM
open Go

def cGuard (ops : Array Oper) : Option (Nat × Bool) → Option (Option (Nat × Bool))
  | none => some none
  | some (j, b) => match (ops[j]?).bind (·.dst) with
    | some d => some (some (d, b))
    | none => none

def cOper (P : Program) (nt : Nat) (ops : Array Oper) (drw : Option Nat) (o : Oper) : Option AOper :=
  match cGuard ops o.guard with
  | some g => if (o.dst.all fun d => decide (d < nt)) = true then some ⟨o.dst, g, (cOp P drw o).getD (.row 0 [])⟩ else none
  | none => none

structure SR (w0 : World) (L0 : Nat → Lc) (h : List Blk) (nt : Nat) (s : St) (a : Act) (w : World) (L : Nat → Lc) : Prop where
  hr : HR w (full h s) L
  tr : TR (envOf w (full h s) L) a s.t
  df : a.defers = []
  sz : a.tmps.size = nt
  ext : Ext (envOf w0 h L0) (envOf w (full h s) L)
  same : Same w0 w h L0 L (keysM s.m)

theorem TR.put {E E' : Env} {a : Act} {T : List (Nat × AV)} (ht : TR E a T) (he : Ext E E') {d : Nat} (hd : d < a.tmps.size) {v : AV} {cv : Value} (hv : AR E' v cv) :
    TR E' (a.put (some d) cv) ((d, v) :: T) := by
  intro i x hx
  simp only [look] at hx
  by_cases e : d = i
  · subst e
    rw [if_pos rfl] at hx
    cases hx
    simpa [Act.put, hd] using hv
  · rw [if_neg e] at hx
    have : (a.put (some d) cv).tmps.getD i Go.undef = a.tmps.getD i Go.undef := by
      simp [Act.put, Array.getD_eq_getD_getElem?, Array.getElem?_setIfInBounds, e]
    rw [this]
    exact (ht i x hx).mono he

theorem TR.mono {E E' : Env} {a : Act} {T : List (Nat × AV)} (ht : TR E a T) (he : Ext E E') : TR E' a T := fun i v hv => (ht i v hv).mono he

theorem look_keep (T : List (Nat × AV)) (i : Nat) (v : AV) : ∀ lv, look (keep T lv) i = some v → look T i = some v
  | [], h => by cases h
  | j :: l, h => by
    simp only [keep] at h
    split at h
    · rename_i x hx
      simp only [look] at h
      split at h
      · rename_i e; subst e; rw [hx]; exact h
      · exact look_keep T i v l h
    · exact look_keep T i v l h

theorem TR.keep {E : Env} {a : Act} {T : List (Nat × AV)} (ht : TR E a T) (lv : List Nat) : TR E a (keep T lv) := fun i v hv => ht i v (look_keep T i v lv hv)

section
variable {P : Program} {w0 w w' : World} {L0 L L' : Nat → Lc} {h : List Blk} {nt : Nat} {s s' : St} {a : Act}

theorem SR.kp (hs : SR w0 L0 h nt s a w L) (lv : List Nat) : SR w0 L0 h nt (s.kp lv) a w L :=
  ⟨hs.hr, hs.tr.keep lv, hs.df, hs.sz, hs.ext, hs.same⟩

theorem live_ext (he : Ext (envOf w0 h L0) (envOf w (full h s) L)) {i : Nat} (hi : i < h.length) (hl : Live (full h s) i) : Live h i := he.lv i hi hl

/-- How a state goes on: what it is worth behind a step. -/
theorem SR.go (hs : SR w0 L0 h nt s a w L) {d : Option Nat} (hd : (d.all fun d => decide (d < nt)) = true) {v : AV} {cv : Value} {ws : List Nat}
    (hr : HR w' (full h s') L') (ht : s'.t = s.t) (hv : AR (envOf w' (full h s') L') v cv) (he : Ext (envOf w (full h s) L) (envOf w' (full h s') L'))
    (hsame : Same w w' (full h s) L L' ws) (hk : Kp h s s' ws) (hlive : ∀ i, i < h.length → i ∉ keysM s.m → Live h i → Live (full h s) i) :
    SR w0 L0 h nt (s'.put d v) (a.put d cv) w' L' := by
  have hS : Same w0 w' h L0 L' (keysM s'.m) := fun id hid hn => by
    have n1 : id ∉ keysM s.m := fun hm => hn (hk.old id hm)
    have n2 : id ∉ ws := fun hm => hn (hk.new id hm hid)
    obtain ⟨h1, h2⟩ := hs.same id hid n1
    obtain ⟨k1, k2⟩ := hsame id (by rw [full_length]; show id < h.length + s.o.length; omega) n2
    refine ⟨k1.trans h1, fun hl b hb => ?_⟩
    rw [← h2 hl b hb]
    exact k2 (hlive id hid n1 hl) b (by rw [h1]; exact hb)
  cases d with
  | none => exact ⟨hr, by rw [show (s'.put none v).t = s'.t from rfl, ht]; exact hs.tr.mono he, hs.df, hs.sz, hs.ext.trans he, hS⟩
  | some d =>
    refine ⟨hr, ?_, hs.df, ?_, hs.ext.trans he, hS⟩
    · show TR _ _ ((d, v) :: s'.t)
      rw [ht]
      exact hs.tr.put he (by rw [hs.sz]; simpa using hd) hv
    · show (a.tmps.setIfInBounds d cv).size = nt
      simpa using hs.sz

theorem full_out (h : List Blk) (s : St) {i : Nat} (hi : i < h.length) (hn : i ∉ keysM s.m) : (full h s)[i]? = h[i]? := by
  unfold full
  rw [List.getElem?_append_left (by rw [applyM_length]; exact hi), applyM_get_ne _ _ _ hn]

theorem hlive_all (h : List Blk) (s : St) : ∀ i, i < h.length → i ∉ keysM s.m → Live h i → Live (full h s) i :=
  fun i hi hn ⟨x, hx, lx⟩ => ⟨x, by rw [full_out h s hi hn]; exact hx, lx⟩

theorem ob_some {α β : Type} {x : Option α} {k : α → Option β} {r : β} (h : ob x k = some r) : ∃ a, x = some a ∧ k a = some r := by
  cases x with
  | none => cases h
  | some a => exact ⟨a, rfl, h⟩

theorem TR.dup {E : Env} {a : Act} {T : List (Nat × AV)} (ht : TR E a T) {g : Nat} {v : AV} (hg : look T g = some v) : TR E a ((g, v) :: T) := by
  intro i x hx
  simp only [look] at hx
  split at hx
  · rename_i e; subst e; cases hx; exact ht _ _ hg
  · exact ht i x hx

/-- By a guard. -/
theorem gdo_ok {α : Type} {ops : Array Oper} {o : Oper} {g : Option (Nat × Bool)} {yes no : St → Option α} {r : α} (hs : SR w0 L0 h nt s a w L) (hg : cGuard ops o.guard = some g) (hr : gdo s g yes no = some r) :
    ∃ s1 c, SR w0 L0 h nt s1 a w L ∧ s1.m = s.m ∧ s1.o = s.o ∧ Region.wanted o (yielded ops a.tmps) = c ∧ ((c = true ∧ yes s1 = some r) ∨ (c = false ∧ no s1 = some r)) := by
  unfold cGuard at hg
  split at hg
  · rename_i e
    cases hg
    exact ⟨s, true, hs, rfl, rfl, by simp [Region.wanted, e], .inl ⟨rfl, hr⟩⟩
  · rename_i j b e
    split at hg
    · rename_i d hd
      cases hg
      simp only [gdo] at hr
      split at hr
      · rename_i x hx
        have hval := (hs.tr d _ hx).inv_g.inv_bool
        have hw : Region.wanted o (yielded ops a.tmps) = (x == b) := by
          simp only [Region.wanted, e, yielded, hd, Option.bind_some]
          rw [Array.getD_eq_getD_getElem?] at hval
          cases hq : a.tmps[d]? with
          | none => rw [hq] at hval; cases hval
          | some y => rw [hq] at hval; simp at hval; subst hval; simp
        split at hr
        · rename_i hxb
          subst hxb
          exact ⟨s.put (some d) (.g (.bool x)), true, ⟨hs.hr, hs.tr.dup hx, hs.df, hs.sz, hs.ext, hs.same⟩, rfl, rfl, by rw [hw]; simp, .inl ⟨rfl, hr⟩⟩
        · rename_i hxb
          have hx' : x = !b := by cases x <;> cases b <;> simp_all
          subst hx'
          exact ⟨s.put (some d) (.g (.bool (!b))), false, ⟨hs.hr, hs.tr.dup hx, hs.df, hs.sz, hs.ext, hs.same⟩, rfl, rfl, by rw [hw]; cases b <;> rfl, .inr ⟨rfl, hr⟩⟩
      · rename_i hx
        refine ⟨s, false, hs, rfl, rfl, ?_, .inr ⟨rfl, hr⟩⟩
        simp only [Region.wanted, e, yielded, hd, Option.bind_some]
        have hv := hs.tr d _ hx
        have hu : a.tmps.getD d Go.undef = Go.undef := by generalize a.tmps.getD d Go.undef = q at hv; cases hv; rfl
        rw [Array.getD_eq_getD_getElem?] at hu
        cases hq : a.tmps[d]? with
        | none => simp
        | some y => rw [hq] at hu; simp at hu; subst hu; simp [Go.undef]
      · cases hr
    · cases hg

theorem run_call {P : Program} {c : Call} {o : Oper} {x : Operand} (ho : o.op = .call c) (hx : c.callee = .value x) {f : FuncId} {caps : Array Value} (hf : a.eval x = .func (.func f) #[] caps) (w : World) :
    (execOp a.eval o).run P w = (callFunc f (c.args.map a.eval ++ caps)).run P w := by
  simp [execOp, ho, resolve, hx, hf, Deferred.ofValue, invoke]

theorem GR.inv_fn {E : Env} {f : FuncId} {v : Value} (h : GR E (.fn f) v) : v = .func (.func f) #[] #[] := by cases h; rfl

theorem args_ok {E : Env} (ht : TR E a s.t) {xs : List Operand} {Xs : List Opd} {vs : List AV} (h1 : cOpds xs = some Xs) (h2 : vals s Xs = some vs) : ArgsOk E vs (xs.toArray.map a.eval) := by
  obtain ⟨k1, k2⟩ := cOpds_vals ht h1 h2
  refine ⟨by simp [k1], fun j u y hu hy => ?_⟩
  simp at hy
  obtain ⟨x, hx, rfl⟩ := hy
  exact k2 j x u hx hu

/-- A call. -/
theorem evCall_ok {E : FnS} (hE : FnOk P E) (hs : SR w0 L0 h nt s a w L) {o : Oper} {c : Call} {x : Operand} {xs : List Opd} {fo : Opd} {fv v : AV} {vs : List AV} {ws : List Nat} {hd : List Nat}
    (ho : o.op = .call c) (hx : c.callee = .value x) (hfo : cOpd x = some fo) (hxs : cOpds c.args.toList = some xs) (hfv : val s fo = some fv) (hvs : vals s xs = some vs)
    (he : evCall E h hd s fv vs = some (v, s', ws)) {K : Act → World → Prop} {Q : Exit → Act → World → Prop}
    (hK : ∀ cv w' L', HR w' (full h s') L' → s'.t = s.t → AR (envOf w' (full h s') L') v cv → Ext (envOf w (full h s) L) (envOf w' (full h s') L') → Same w w' (full h s) L L' ws →
      Kp h s s' ws → (∀ i, i ∈ ws → i ∉ hd) → K (a.put o.dst cv) w') : o.wp P a w K Q := by
  unfold evCall at he
  split at he
  case isFalse => cases he
  rename_i hlb
  have hl : ∀ i, i ∈ hd → Live (full h s) i := fun i hi => isLiveB_iff.1 (List.all_eq_true.1 hlb i hi)
  have hargs := args_ok hs.tr hxs hvs
  rw [Array.toArray_toList] at hargs
  have key : ∀ (f : FuncId) (caps : Array Value) (ys : List AV), a.eval x = .func (.func f) #[] caps → ArgsOk (envOf w (full h s) L) ys (c.args.map a.eval ++ caps) →
      fin h hd s (E f ys (hideB hd (full h s))) = some (v, s', ws) → o.wp P a w K Q := by
    intro f caps ys hf hys hfin
    unfold fin at hfin
    split at hfin
    case h_2 => cases hfin
    rename_i r m oo hr
    split at hfin
    case isFalse => cases hfin
    rename_i hall
    cases hfin
    have hk : ∀ i, i ∈ keysM m → i ∉ hd := fun i hi hh => by
      obtain ⟨p, hp, e⟩ := List.mem_map.1 hi
      have := List.all_eq_true.1 hall p hp
      rw [e] at this
      simp at this
      exact this hh
    have hF := (hE f ys _ _ hr).hide hl (fun i hi hm => hk i hm hi)
    have hfull : applyM (full h s) m ++ oo = full h ((setAll h s m).app oo) := by rw [full_app, full_setAll]
    have hkp : Kp h s ((setAll h s m).app oo) (m.map (·.1)) := ⟨(setAll_keys h s m).1, (setAll_keys h s m).2, fun i hi hl => by
      rw [← hfull, List.getElem?_append_left (by rw [applyM_length]; exact hl), applyM_get_ne _ _ _ hi]⟩
    have ht : ((setAll h s m).app oo).t = s.t := by
      show (setAll h s m).t = s.t
      have : ∀ m, (setAll h s m).t = s.t := fun m => by
        induction m with
        | nil => rfl
        | cons p r ih => obtain ⟨i, b⟩ := p; simp only [setAll, setB_t, ih]
      exact this m
    have hrun := run_call (P := P) ho hx hf w
    rcases hF w L _ hs.hr hys with ⟨c1, c2⟩ | ⟨cv, w', c1, c2⟩
    · rw [c1] at hrun
      unfold Oper.wp
      rw [hrun, Oper.upon_enter]
      refine Calls.mono c2 fun e w' ⟨cv, he, L', h1, h2, h3, h4⟩ => ?_
      subst he
      simp only [hfull] at h1 h2 h3
      exact hK cv w' L' h2 ht h1 h3 h4 hkp hk
    · rw [c1] at hrun
      obtain ⟨L', h1, h2, h3, h4⟩ := c2
      unfold Oper.wp
      rw [hrun, Oper.upon_value]
      simp only [hfull] at h1 h2 h3
      exact hK cv w' L' h2 ht h1 h3 h4 hkp hk
  split at he
  · rename_i f
    have hf := (cOpd_ok hs.tr hfo hfv).inv_g.inv_fn
    refine key f #[] vs hf ?_ he
    simpa using hargs
  · rename_i f caps
    have hf := cOpd_ok hs.tr hfo hfv
    cases hq : a.eval x with
    | func g first C => 
      rw [hq] at hf
      cases hf with
      | fv hn hc =>
      refine key f _ (vs ++ caps) hq ?_ he
      obtain ⟨h1, h2⟩ := hargs
      refine ⟨by simp [h1, hn], fun j u y hu hy => ?_⟩
      by_cases hlt : j < vs.length
      · rw [List.getElem?_append_left hlt] at hu
        rw [Array.getElem?_append_left (by rw [← h1]; exact hlt)] at hy
        exact h2 j u y hu hy
      · rw [List.getElem?_append_right (by omega)] at hu
        rw [Array.getElem?_append_right (by rw [← h1]; omega)] at hy
        exact hc _ u y hu (by rw [h1]; exact hy)
    | _ => rw [hq] at hf; cases hf <;> (rename_i hg; cases hg)
  · cases he
end
end Go.AM
