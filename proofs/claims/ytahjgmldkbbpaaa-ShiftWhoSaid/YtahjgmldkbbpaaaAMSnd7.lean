/- What the evaluator says, the machine does: functions. -/
import Derived.Test.YtahjgmldkbbpaaaAMSnd6
set_option linter.unusedSimpArgs false
set_option linter.unusedVariables false
namespace Go.AM
open Go

def cRV (P : Program) : ResultVar → Option RV
  | .tmp t => some (.tmp t)
  | .cell a t => match aggT P t, szT P t with
    | some g, some n => if g = true ∨ n = 1 then some (.cell a g n) else none
    | _, _ => none

def cRVs (P : Program) : List ResultVar → Option (List RV)
  | [] => some []
  | x :: xs => match cRV P x, cRVs P xs with
    | some y, some ys => some (y :: ys)
    | _, _ => none

def cFunc (P : Program) (f : FuncId) (esc : Bool) (hints : List (List Nat)) : Option IFunc :=
  match P.funcs[f]? with
  | some fn => match fn.body with
    | some c => if (fn.name == "runtime.NumGoroutine") = false then
        match cCode P fn.ntmps c hints, cRVs P fn.results.toList with
        | some (ic, []), some rs => some ⟨fn.params.size + fn.nfree, fn.ntmps, rs, esc, ic⟩
        | _, _ => none
      else none
    | none => none
  | none => none

section
variable {P : Program} {w w0 : World} {L L0 : Nat → Lc} {h : List Blk} {nt : Nat} {s : St} {a : Act}

def rvSem (tmps : Array Value) : ResultVar → Sem Value
  | .tmp t => pure (tmps.getD t undef)
  | .cell a t => do loadVar t (← asAddr (tmps.getD a undef))

theorem run_mapM_list (f : ResultVar → Sem Value) (P : Program) (w : World) : ∀ (l : List ResultVar) (vs : List Value), l.length = vs.length → (∀ (j : Nat) (x : ResultVar) (v : Value), l[j]? = some x → vs[j]? = some v → (f x).run P w = .ok v w) →
    (l.mapM f).run P w = .ok vs w
  | [], vs, hl, hh => by
    have : vs = [] := by cases vs <;> simp at hl; rfl
    subst this; simp
  | x :: l, vs, hl, hh => by
    cases vs with
    | nil => simp at hl
    | cons v vs =>
      have h1 := hh 0 x v rfl rfl
      have h2 := run_mapM_list f P w l vs (by simpa using hl) (fun j y u hy hu => hh (j + 1) y u (by simpa using hy) (by simpa using hu))
      simp [List.mapM_cons, h1, h2]

theorem run_results {fn : Func} {tmps : Array Value} {P : Program} {w : World} {vs : List Value} (hl : fn.results.toList.length = vs.length)
    (hh : ∀ (j : Nat) (x : ResultVar) (v : Value), fn.results.toList[j]? = some x → vs[j]? = some v → (rvSem tmps x).run P w = .ok v w) :
    (results fn tmps).run P w = .ok (if hs : vs.toArray.size = 1 then vs.toArray[0] else .tuple vs.toArray) w := by
  have h1 := run_mapM_list (rvSem tmps) P w fn.results.toList vs hl hh
  have h2 : (fn.results.mapM (rvSem tmps)).run P w = .ok vs.toArray w := by
    rw [Array.mapM_eq_mapM_toList]
    simp [h1]
  unfold results
  have e : (fun x => match x with
    | ResultVar.tmp t => pure (tmps.getD t undef)
    | ResultVar.cell a t => do loadVar t (← asAddr (tmps.getD a undef)) : ResultVar → Sem Value) = rvSem tmps := by
      funext x; cases x <;> rfl
  rw [Sem.run_bind]
  refine Eq.trans (congrArg (fun q => Result.andThen (Sem.run P q w) _) (congrArg (fun f => Array.mapM f fn.results) e)) ?_
  rw [h2]
  rfl

theorem rv_ok (hs : SR w0 L0 h nt s a w L) {x : ResultVar} {y : RV} {v : AV} (hc : cRV P x = some y) (he : rvV h s y = some v) :
    ∃ cv, AR (envOf w (full h s) L) v cv ∧ (rvSem a.tmps x).run P w = .ok cv w := by
  cases x with
  | tmp t =>
    cases hc
    exact ⟨_, hs.tr t v he, by simp [rvSem]⟩
  | cell t ty =>
    simp only [cRV] at hc
    split at hc
    case h_2 => cases hc
    rename_i g n hg hn
    split at hc
    case isFalse => cases hc
    rename_i hgn
    cases hc
    simp only [rvV] at he
    split at he
    case h_2 => cases he
    rename_i v' rs hv
    cases he
    obtain ⟨cv, h1, h2⟩ := y_load (P := P) hs.hr hs.tr (dst := none) (ty := ty) (pos := "") (after := #[]) (gd := none) (p := .tmp t) hg hn hgn rfl hv
    refine ⟨cv, h1, ?_⟩
    have h3 := h2 w (fun _ => .self _ _)
    simp only [execOp, Instr.loadAt, Sem.run_bind] at h3
    simp only [rvSem, Sem.run_bind]
    have e : a.eval (.tmp t) = a.tmps.getD t undef := rfl
    rw [e] at h3
    cases hq : a.tmps.getD t undef with
    | pointer A =>
      cases A with
      | none => rw [hq] at h3; simp [Instr.sureAddr] at h3
      | some A =>
        rw [hq] at h3
        simp [Instr.sureAddr] at h3
        simp [asAddr]
        generalize (loadVar ty A).run P w = r at h3 ⊢
        cases r <;> simp at h3 ⊢
        exact h3
    | _ => rw [hq] at h3; simp [Instr.sureAddr] at h3

theorem rvs_ok (hs : SR w0 L0 h nt s a w L) : ∀ (l : List ResultVar) (rs : List RV) (vs : List AV), cRVs P l = some rs → rvVs h s rs = some vs →
    ∃ cs : List Value, l.length = cs.length ∧ vs.length = cs.length ∧ (∀ (j : Nat) (x : ResultVar) (v : Value), l[j]? = some x → cs[j]? = some v → (rvSem a.tmps x).run P w = .ok v w) ∧
      ∀ (j : Nat) (x : AV) (v : Value), vs[j]? = some x → cs[j]? = some v → AR (envOf w (full h s) L) x v
  | [], rs, vs, hc, he => by
    cases hc
    simp only [rvVs] at he
    cases he
    exact ⟨[], rfl, rfl, fun j x v hx => by simp at hx, fun j x v hx => by simp at hx⟩
  | x :: l, rs, vs, hc, he => by
    simp only [cRVs] at hc
    split at hc
    case h_2 => cases hc
    rename_i y ys hy hys
    cases hc
    simp only [rvVs] at he
    split at he
    case h_2 => cases he
    rename_i v vs' hv hvs
    cases he
    obtain ⟨cv, h1, h2⟩ := rv_ok hs hy hv
    obtain ⟨cs, k1, k2, k3, k4⟩ := rvs_ok hs l ys vs' hys hvs
    refine ⟨cv :: cs, by simp [k1], by simp [k2], fun j x v hx hv => ?_, fun j x v hx hv => ?_⟩
    · cases j with
      | zero => simp at hx hv; subst hx hv; exact h2
      | succ j => exact k3 j x v (by simpa using hx) (by simpa using hv)
    · cases j with
      | zero => simp at hx hv; subst hx hv; exact h1
      | succ j => exact k4 j x v (by simpa using hx) (by simpa using hv)

theorem tupV_ok {E : Env} {vs : List AV} {cs : List Value} (hl : vs.length = cs.length) (hh : ∀ (j : Nat) (x : AV) (v : Value), vs[j]? = some x → cs[j]? = some v → AR E x v) :
    AR E (tupV vs) (if hs : cs.toArray.size = 1 then cs.toArray[0] else .tuple cs.toArray) := by
  match vs, cs, hl with
  | [], [], _ => exact .tup rfl (fun j x v hx => by simp at hx)
  | [x], [v], _ => exact hh 0 x v rfl rfl
  | x :: y :: vs, v :: u :: cs, hl =>
    have : ¬ (v :: u :: cs).toArray.size = 1 := by simp
    rw [dif_neg this]
    exact .tup (by simpa using hl) (fun j p q hp hq => hh j p q hp (by simpa using hq))

theorem applyM_mem {H : List Blk} {i : Nat} {k : Blk} : ∀ (m : List (Nat × Blk)), True → i ∈ keysM m → (applyM H m)[i]? = some k → ∃ p ∈ m, p.2 = k
  | [], _, hi, _ => by cases hi
  | (a, v) :: t, _, hi, hk => by
    simp only [applyM] at hk
    by_cases e : a = i
    · subst e
      have hlt : a < (applyM H t).length := by have := (List.getElem?_eq_some_iff.1 hk).1; simpa using this
      rw [List.getElem?_set_self hlt] at hk
      exact ⟨(a, v), by simp, Option.some.inj hk⟩
    · rw [List.getElem?_set_ne e] at hk
      simp only [keysM, List.map_cons, List.mem_cons] at hi
      obtain ⟨p, h1, h2⟩ := applyM_mem t trivial (hi.resolve_left (fun h => e h.symm)) hk
      exact ⟨p, by simp [h1], h2⟩

theorem initT_look : ∀ (k : Nat) (args : List AV) (i : Nat) (v : AV), look (initT k args) i = some v → ∃ j, i = k + j ∧ args[j]? = some v
  | _, [], _, _, h => by cases h
  | k, x :: r, i, v, h => by
    simp only [initT, look] at h
    split at h
    · rename_i e; cases h; exact ⟨0, by omega, rfl⟩
    · obtain ⟨j, h1, h2⟩ := initT_look (k + 1) r i v h
      exact ⟨j + 1, by omega, by simpa using h2⟩

/-- What a function answers, it does. -/
theorem evBody_ok {E : FnS} (hE : FnOk P E) (hm : P.follows .mixedOrders = true) {f : FuncId} {esc : Bool} {hints : List (List Nat)} {F : IFunc} (hF : cFunc P f esc hints = some F)
    {args : List AV} {H : List Blk} {r : Res} (he : evBody E F args H = some r) : SndF P f args H r := by
  unfold cFunc at hF
  split at hF
  case h_2 => cases hF
  rename_i fn hfn
  split at hF
  case h_2 => cases hF
  rename_i c hbody
  split at hF
  case isFalse => cases hF
  rename_i hname
  split at hF
  case h_2 => cases hF
  rename_i ic rs hic hrs
  cases hF
  intro w L xs hr ha
  refine .inl ⟨?_, ?_⟩
  · simp [callFunc, hfn, hname, hbody]
    simpa using hname
  refine calls_of_wp hfn hbody ?_
  unfold evBody at he
  simp only at he
  split at he
  case isFalse => cases he
  rename_i hlen
  have hfull : full H ⟨initT 0 args, [], []⟩ = H := by simp [full, applyM]
  have hs0 : SR w L H fn.ntmps ⟨initT 0 args, [], []⟩ { tmps := xs ++ Array.replicate (fn.ntmps - xs.size) undef, defers := [] } w L := by
    refine ⟨by rw [hfull]; exact hr, ?_, rfl, ?_, by rw [hfull]; exact .refl _, fun _ _ _ => ⟨rfl, fun _ _ _ => rfl⟩⟩
    · rw [hfull]
      intro i v hv
      obtain ⟨j, h1, h2⟩ := initT_look 0 args i v hv
      have : i = j := by omega
      subst this
      have hlt : i < xs.size := by rw [← ha.1]; exact (List.getElem?_eq_some_iff.1 h2).1
      refine ha.2 i v _ h2 ?_
      simp [Array.getD_eq_getD_getElem?, Array.getElem?_append_left hlt, hlt]
    · have := ha.1
      simp; omega
  have go : ∀ (e : Ex) (s : St), evCode E H ic ⟨initT 0 args, [], []⟩ = some (e, s) → (e = .ret ∨ e = .normal) → finish H ⟨fn.params.size + fn.nfree, fn.ntmps, rs, esc, ic⟩ s = some r →
      c.wp P (bodyPost P fn fun e w' => ∃ v, e = .returned v ∧ ∃ L', AR (envOf w' (applyM H r.m ++ r.o) L') r.r v ∧ HR w' (applyM H r.m ++ r.o) L' ∧ Ext (envOf w H L) (envOf w' (applyM H r.m ++ r.o) L') ∧ Same w w' H L L' (keysM r.m)) { tmps := xs ++ Array.replicate (fn.ntmps - xs.size) undef, defers := [] } w := by
    intro e s hev hex hfin
    refine wp_mono (evCode_ok hE hm c hints ic [] hic _ _ w L e s hs0 hev) fun e' a' w' ⟨k1, L', k2⟩ => ?_
    have post : a'.defers = [] ∧ ∃ v, (results fn a'.tmps).run P w' = .ok v w' ∧ ∃ v', Ending.returned v = .returned v' ∧ ∃ L', AR (envOf w' (applyM H r.m ++ r.o) L') r.r v' ∧ HR w' (applyM H r.m ++ r.o) L' ∧ Ext (envOf w H L) (envOf w' (applyM H r.m ++ r.o) L') ∧ Same w w' H L L' (keysM r.m) := by
      refine ⟨k2.df, ?_⟩
      unfold finish at hfin
      split at hfin
      case h_2 => cases hfin
      rename_i vs hvs
      obtain ⟨cs, j1, j2, j3, j4⟩ := rvs_ok k2 _ _ _ hrs hvs
      refine ⟨_, run_results j1 j3, _, rfl, L', ?_⟩
      simp only at hfin
      split at hfin
      · cases hfin
        exact ⟨tupV_ok j2 j4, k2.hr, k2.ext, k2.same⟩
      · split at hfin
        case h_2 => cases hfin
        rename_i vs' hvs'
        split at hfin
        case isFalse => cases hfin
        rename_i hall
        cases hfin
        simp only [List.append_nil]
        obtain ⟨i1, i2⟩ := frz3_ok vs vs' hvs'
        refine ⟨tupV_ok (by omega) (fun j x v hx hv => ?_), ?_, ?_, k2.same⟩
        · obtain ⟨y, hy, hz⟩ := i2 j x hx
          exact frz2_ok k2.hr hz (j4 j y v hy hv)
        · refine HR.drop (o := s.o) k2.hr (fun i k hk => ?_)
          by_cases hi : i ∈ keysM s.m
          · obtain ⟨p, hp, rfl⟩ := applyM_mem _ trivial hi hk
            exact .inl (by rw [applyM_length]; exact List.all_eq_true.1 hall p hp)
          · have hk' : H[i]? = some k := by rw [← applyM_get_ne _ _ _ hi]; exact hk
            obtain ⟨q1, q2⟩ := k2.same i (List.getElem?_eq_some_iff.1 hk').1 hi
            exact .inr ((hr.blk i k hk').mono (ext_drop k2.ext (by rw [applyM_length]; exact Nat.le_refl _)) q1 (fun hl b hb => q2 ⟨k, hk', hl⟩ b hb))
        · exact ext_drop k2.ext (by rw [applyM_length]; exact Nat.le_refl _)
    subst k1
    rcases hex with rfl | rfl
    · exact post
    · exact post
  split at he
  · rename_i s hev; exact go _ s hev (.inl rfl) he
  · rename_i s hev; exact go _ s hev (.inr rfl) he
  · cases he

end
end Go.AM
