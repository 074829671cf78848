/- Part of the proof: the abstract machine, part 3 (AMSnd1, AMIn, AMSnd2, AMSnd3, AMSnd4, AMSndY, AMSnd5, AMSnd6, AMShut, AMSnd7, AMRound, AMSnd8, AMRun, AMData, AMLaw). No conditions. -/
import Derived.Test.YtenndgooepdmiaaGreatDoorAMJ2
import Derived.RangeFuncLeaves
import Derived.OrdersIn
import Derived.LoopNIn
import Derived.Scope
import Derived.RangeFuncRecord
import Derived.ChangeArms
import Derived.OpenShut
import Derived.SizedLaws
import Derived.Carry
section
set_option linter.unusedSimpArgs false
set_option linter.unusedVariables false
namespace Go.AM
open Go

def keysM (m : List (Nat × Blk)) : List Nat := m.map (·.1)

theorem keysM_upd (i id : Nat) (b : Blk) : ∀ m : List (Nat × Blk), i ∈ keysM (updM m id b) ↔ i = id ∨ i ∈ keysM m
  | [] => by simp [keysM, updM]
  | (a, v) :: t => by
    have ih := keysM_upd i id b t
    simp only [updM]
    split
    · rename_i e; subst e; simp [keysM]
    · simp only [keysM, List.map_cons, List.mem_cons] at ih ⊢
      rw [ih]
      constructor <;> (intro h; rcases h with h | h | h <;> simp [h])

theorem full_setAll (h : List Blk) (s : St) : ∀ m, full h (setAll h s m) = applyM (full h s) m
  | [] => rfl
  | (i, b) :: r => by simp only [setAll, applyM, full_setB, full_setAll h s r]

theorem full_app (h : List Blk) (s : St) (o : List Blk) : full h (s.app o) = full h s ++ o := by simp [full, St.app]

/-- What a state keeps in mind of the outer blocks it wrote; and what else stays. -/
structure Kp (h : List Blk) (s s' : St) (ws : List Nat) : Prop where
  old : ∀ i, i ∈ keysM s.m → i ∈ keysM s'.m
  new : ∀ i, i ∈ ws → i < h.length → i ∈ keysM s'.m
  stay : ∀ i, i ∉ ws → i < (full h s).length → (full h s')[i]? = (full h s)[i]?

theorem Kp.refl (h : List Blk) (s : St) : Kp h s s [] := ⟨fun _ h => h, fun _ h => by (cases h), fun _ _ _ => rfl⟩
theorem Kp.setB (h : List Blk) (s : St) (id : Nat) (b : Blk) : Kp h s (setB h s id b) [id] := by
  have hst : ∀ i, i ∉ [id] → i < (full h s).length → (full h (Go.AM.setB h s id b))[i]? = (full h s)[i]? := fun i hi _ => by
    rw [full_setB, List.getElem?_set_ne (fun e => hi (by simp [e]))]
  refine ⟨?_, ?_, hst⟩ <;> unfold Go.AM.setB <;> split
  · exact fun i hk => (keysM_upd i id b s.m).2 (.inr hk)
  · exact fun i hk => hk
  · exact fun i hk _ => (keysM_upd i id b s.m).2 (by simp at hk; exact .inl hk)
  · rename_i hi
    exact fun i hk hl => by simp at hk; subst hk; exact absurd hl hi
theorem Kp.o {h : List Blk} {s s' : St} (hm : s'.m = s.m) (o : List Blk) (ho : s'.o = s.o ++ o) : Kp h s s' [] := ⟨fun _ hk => by rw [hm]; exact hk, fun _ hk => by (cases hk), fun i _ hi => by
  unfold full at hi ⊢
  rw [hm, ho, ← List.append_assoc, List.getElem?_append_left hi]⟩
theorem Kp.put {h : List Blk} {s s' : St} {ws : List Nat} (k : Kp h s s' ws) (d : Option Nat) (v : AV) : Kp h s (s'.put d v) ws := by
  cases d
  · exact k
  · exact ⟨k.old, k.new, k.stay⟩

theorem setAll_keys (h : List Blk) (s : St) : ∀ m, (∀ i, i ∈ keysM s.m → i ∈ keysM (setAll h s m).m) ∧ (∀ i, i ∈ keysM m → i < h.length → i ∈ keysM (setAll h s m).m)
  | [] => ⟨fun _ h => h, fun _ h => by cases h⟩
  | (i, b) :: r => by
    obtain ⟨h1, h2⟩ := setAll_keys h s r
    have k := Kp.setB h (setAll h s r) i b
    refine ⟨fun j hj => k.old j (h1 j hj), fun j hj hl => ?_⟩
    simp only [keysM, List.map_cons, List.mem_cons] at hj
    rcases hj with rfl | hj
    · exact k.new j (by simp) hl
    · exact k.old j (h2 j hj hl)

theorem storeV_keys {h : List Blk} {s s' : St} {p : AV} {vs : List AV} {ws : List Nat} (he : storeV h s p vs = some (s', ws)) : Kp h s s' ws := by
  unfold storeV at he
  repeat' split at he
  all_goals first
    | (cases he; done)
    | (cases he; exact Kp.setB ..)

theorem appV_keys {h : List Blk} {s s' : St} {sz bytes : Nat} {x v : AV} {ys : List (List GV)} {ws : List Nat} (he : appV h s sz bytes x ys = some (v, s', ws)) : Kp h s s' ws := by
  unfold appV at he
  repeat' split at he
  all_goals first
    | (cases he; done)
    | (cases he; exact Kp.setB ..)
    | (cases he; exact Kp.refl ..)
    | (cases he; exact Kp.o rfl _ rfl)
    | (cases he; exact Kp.o rfl _ (List.append_assoc ..))

theorem appTV_keys {e : TypeId} {h : List Blk} {s s' : St} {sz bytes id g off len : Nat} {v : AV} {ys : List (List GV)} {ws : List Nat} (he : appTV e h s sz bytes id g off len ys = some (v, s', ws)) : Kp h s s' ws := by
  unfold appTV at he
  repeat' split at he
  all_goals first
    | (cases he; done)
    | (cases he; exact Kp.setB ..)
    | (cases he; exact Kp.refl ..)

theorem evI_keys {h : List Blk} {nb : Nat} {s s' : St} {ao : AOp} {v : AV} {ws : List Nat} (he : evI h nb s ao = some (v, s', ws)) : Kp h s s' ws := by
  unfold evI at he
  repeat' split at he
  all_goals first
    | (cases he; done)
    | exact appV_keys he
    | exact appTV_keys he
    | (cases he; exact Kp.setB ..)
    | (cases he; exact Kp.refl ..)
    | (cases he; exact Kp.o rfl _ rfl)
    | (cases he; exact Kp.o rfl _ (List.append_assoc ..))
    | (cases he; exact storeV_keys (by assumption))

/-! ### Hidden blocks -/
theorem hideB_length : ∀ (hd : List Nat) (H : List Blk), (hideB hd H).length = H.length
  | [], _ => rfl
  | _ :: r, H => by simp [hideB, hideB_length r H]

theorem hideB_get (hd : List Nat) (H : List Blk) (i : Nat) : (hideB hd H)[i]? = if i ∈ hd then (H[i]?).map (fun _ => .hid) else H[i]? := by
  induction hd with
  | nil => simp [hideB]
  | cons a r ih =>
    simp only [hideB]
    by_cases e : a = i
    · subst e
      simp only [List.mem_cons, true_or, if_true]
      by_cases hl : a < H.length
      · rw [List.getElem?_set_self (by rw [hideB_length]; exact hl), List.getElem?_eq_getElem hl]; rfl
      · rw [List.getElem?_eq_none (by simp [hideB_length]; omega), List.getElem?_eq_none (by omega)]; rfl
    · rw [List.getElem?_set_ne e, ih]
      simp [Ne.symm e]

theorem isLiveB_iff {H : List Blk} {i : Nat} : isLiveB H i = true ↔ Live H i := by
  unfold isLiveB Live
  split
  · rename_i b hb; simp [hb]
  · rename_i hb; simp [hb]

theorem env_hide {w : World} {H : List Blk} {L : Nat → Lc} {hd : List Nat} (hl : ∀ i, i ∈ hd → Live H i) : envOf w (hideB hd H) L = envOf w H L := by
  have h1 : ∀ i, Live (hideB hd H) i ↔ Live H i := by
    intro i
    unfold Live
    rw [hideB_get]
    split
    · rename_i hi
      obtain ⟨x, hx, lx⟩ := hl i hi
      exact ⟨fun _ => ⟨x, hx, lx⟩, fun _ => ⟨.hid, by simp [hx], rfl⟩⟩
    · exact Iff.rfl
  have h2 : ∀ b, Own (hideB hd H) L b ↔ Own H L b := by
    intro b
    have e : ∀ H, Own H L b ↔ ∃ i, Live H i ∧ (L i).blk = some b := fun H =>
      ⟨fun ⟨i, x, p, q, r⟩ => ⟨i, ⟨x, p, q⟩, r⟩, fun ⟨i, ⟨x, p, q⟩, r⟩ => ⟨i, x, p, q, r⟩⟩
    rw [e, e]
    simp only [h1]
  unfold envOf
  rw [hideB_length, show Own (hideB hd H) L = Own H L from funext fun b => propext (h2 b), show Live (hideB hd H) = Live H from funext fun i => propext (h1 i)]

theorem HR.hide {w : World} {H : List Blk} {L : Nat → Lc} (hr : HR w H L) {hd : List Nat} (hl : ∀ i, i ∈ hd → Live H i) : HR w (hideB hd H) L := by
  refine ⟨fun id k hk => ?_, fun i j b x y hx hy lx ly hi hj => ?_⟩
  · rw [env_hide hl]
    rw [hideB_get] at hk
    split at hk
    · rename_i hid
      obtain ⟨x, hx, lx⟩ := hl id hid
      rw [hx] at hk
      cases hk
      exact fun b hb => (hr.blk id x hx).lt lx hb
    · exact hr.blk id k hk
  · have e : ∀ (i : Nat) (x : Blk), (hideB hd H)[i]? = some x → x.live = true → ∃ y : Blk, H[i]? = some y ∧ y.live = true := by
      intro i x hx lx
      rw [hideB_get] at hx
      split at hx
      · rename_i hid; exact hl i hid
      · exact ⟨x, hx, lx⟩
    obtain ⟨x', hx', lx'⟩ := e i x hx lx
    obtain ⟨y', hy', ly'⟩ := e j y hy ly
    exact hr.inj i j b x' y' hx' hy' lx' ly' hi hj

theorem applyM_get_ne : ∀ (m : List (Nat × Blk)) (H : List Blk) (i : Nat), i ∉ keysM m → (applyM H m)[i]? = H[i]?
  | [], _, _, _ => rfl
  | (a, v) :: t, H, i, hi => by
    simp only [keysM, List.map_cons, List.mem_cons, not_or] at hi
    simp only [applyM]
    rw [List.getElem?_set_ne (fun e => hi.1 e.symm)]
    exact applyM_get_ne t H i hi.2

theorem applyM_get_eq : ∀ (m : List (Nat × Blk)) (H H' : List Blk) (i : Nat), H.length = H'.length → (i ∉ keysM m → H[i]? = H'[i]?) → (applyM H m)[i]? = (applyM H' m)[i]?
  | [], _, _, i, _, h => h (by simp [keysM])
  | (a, v) :: t, H, H', i, hl, h => by
    simp only [applyM]
    by_cases e : a = i
    · subst e
      by_cases hlt : a < H.length
      · rw [List.getElem?_set_self (by rw [applyM_length]; exact hlt), List.getElem?_set_self (by rw [applyM_length]; omega)]
      · rw [List.getElem?_eq_none (by simp [applyM_length]; omega), List.getElem?_eq_none (by simp [applyM_length]; omega)]
    · rw [List.getElem?_set_ne e, List.getElem?_set_ne e]
      refine applyM_get_eq t H H' i hl (fun hi => h ?_)
      simp only [keysM, List.map_cons, List.mem_cons, not_or]
      exact ⟨fun e' => e e'.symm, hi⟩

/-- What was hidden comes back as it was. -/
theorem hide_back (hd : List Nat) (H : List Blk) (m : List (Nat × Blk)) (o : List Blk) (hk : ∀ i, i ∈ hd → i ∉ keysM m) (hlt : ∀ i, i ∈ hd → i < H.length) :
    applyM (hideB hd H) m ++ o = hideB hd (applyM H m ++ o) := by
  apply List.ext_getElem?
  intro i
  rw [hideB_get]
  by_cases hl : i < H.length
  · rw [List.getElem?_append_left (by rw [applyM_length, hideB_length]; exact hl), List.getElem?_append_left (by rw [applyM_length]; exact hl)]
    split
    · rename_i hi
      rw [applyM_get_ne _ _ _ (hk i hi), applyM_get_ne _ _ _ (hk i hi), hideB_get, if_pos hi]
    · rename_i hi
      exact applyM_get_eq m _ _ i (hideB_length ..) (fun _ => by rw [hideB_get, if_neg hi])
  · rw [if_neg (fun hi => hl (hlt i hi)), List.getElem?_append_right (by rw [applyM_length, hideB_length]; omega), List.getElem?_append_right (by rw [applyM_length]; omega),
      applyM_length, applyM_length, hideB_length]

/-! ### Calls -/
def CallOk (P : Program) (f : FuncId) (xs : Array Value) (w : World) (R : Value → World → Prop) : Prop :=
  ((callFunc f xs).run P w = .ok (.enter f xs) w ∧ Calls P f xs w (fun e w' => ∃ v, e = .returned v ∧ R v w')) ∨
  (xs.size = 1 ∧ ∃ v w', (callFunc f xs).run P w = .ok (.value v) w' ∧ R v w')

def ArgsOk (E : Env) (args : List AV) (xs : Array Value) : Prop :=
  args.length = xs.size ∧ ∀ (j : Nat) (a : AV) (v : Value), args[j]? = some a → xs[j]? = some v → AR E a v

/-- A function's answer is what it does. -/
def SndF (P : Program) (f : FuncId) (args : List AV) (H : List Blk) (r : Res) : Prop :=
  ∀ (w : World) (L : Nat → Lc) (xs : Array Value), HR w H L → ArgsOk (envOf w H L) args xs →
    CallOk P f xs w fun v w' => ∃ L', AR (envOf w' (applyM H r.m ++ r.o) L') r.r v ∧ HR w' (applyM H r.m ++ r.o) L' ∧
      Ext (envOf w H L) (envOf w' (applyM H r.m ++ r.o) L') ∧ Same w w' H L L' (keysM r.m)

/-- What a round does. -/
def RoundOk (P : Program) (b : Nat) (xs : Array Value) (w : World) (R : Value → World → Prop) : Prop :=
  ∃ fn tmps assign body, (Instr.yield b xs).run P w = .ok (.round b fn tmps assign body) w ∧ RoundIn Fence.wide 0 P b fn tmps assign body w (fun e w' => ∃ v, e = .returned v ∧ R v w')

def SndY (P : Program) (as : List AV) (H : List Blk) (r : Res) : Prop :=
  ∀ (vs : List AV) (id : Nat), as = vs ++ [.yv id] → ∀ (w : World) (L : Nat → Lc) (xs : Array Value) (b : Nat), HR w H L → ArgsOk (envOf w H L) vs xs → (L id).blk = some b →
    RoundOk P b xs w fun v w' => ∃ L', AR (envOf w' (applyM H r.m ++ r.o) L') r.r v ∧ HR w' (applyM H r.m ++ r.o) L' ∧
      Ext (envOf w H L) (envOf w' (applyM H r.m ++ r.o) L') ∧ Same w w' H L L' (keysM r.m)

def FnOk (P : Program) (E : FnS) : Prop := ∀ f args H r, E f args H = some r → SndF P f args H r ∧ ∀ key as, f = 0 → args = .yk key :: as → SndY P as H r

theorem sndF_yk {P : Program} {f : FuncId} {key : Nat} {as : List AV} {H : List Blk} {r : Res} : SndF P f (.yk key :: as) H r := fun w L xs hr ha => by
  have hlt : 0 < xs.size := by rw [← ha.1]; simp
  have := ha.2 0 (.yk key) xs[0] rfl (Array.getElem?_eq_getElem hlt)
  cases this

theorem CallOk.mono {P : Program} {f : FuncId} {xs : Array Value} {w : World} {R R' : Value → World → Prop} (h : CallOk P f xs w R) (hr : ∀ v w', R v w' → R' v w') : CallOk P f xs w R' := by
  rcases h with ⟨h1, h2⟩ | ⟨h0, v, w', h1, h2⟩
  · exact .inl ⟨h1, Calls.mono h2 fun e w' ⟨v, he, hv⟩ => ⟨v, he, hr v w' hv⟩⟩
  · exact .inr ⟨h0, v, w', h1, hr v w' h2⟩

/-- The call, some blocks out of its sight. -/
theorem SndF.hide {P : Program} {f : FuncId} {args : List AV} {H : List Blk} {hd : List Nat} {r : Res} (hs : SndF P f args (hideB hd H) r) (hl : ∀ i, i ∈ hd → Live H i)
    (hk : ∀ i, i ∈ hd → i ∉ keysM r.m) : SndF P f args H r := by
  intro w L xs hr ha
  have hlt : ∀ i, i ∈ hd → i < H.length := fun i hi => let ⟨x, hx, _⟩ := hl i hi; (List.getElem?_eq_some_iff.1 hx).1
  refine (hs w L xs (hr.hide hl) (by rw [env_hide hl]; exact ha)).mono fun v w' ⟨L', h1, h2, h3, h4⟩ => ⟨L', ?_⟩
  rw [hide_back hd H r.m r.o hk hlt] at h1 h2 h3
  rw [env_hide hl] at h3
  have hl' : ∀ i, i ∈ hd → Live (applyM H r.m ++ r.o) i := fun i hi => by
    obtain ⟨x, hx, lx⟩ := hl i hi
    exact ⟨x, by rw [List.getElem?_append_left (by rw [applyM_length]; exact hlt i hi), applyM_get_ne _ _ _ (hk i hi)]; exact hx, lx⟩
  rw [env_hide hl'] at h1 h3
  have hsame : Same w w' H L L' (keysM r.m) := fun id hid hn => by
    obtain ⟨k1, k2⟩ := h4 id (by rw [hideB_length]; exact hid) hn
    refine ⟨k1, fun hv => k2 ?_⟩
    obtain ⟨x, hx, lx⟩ := hv
    unfold Live
    rw [hideB_get]
    split
    · exact ⟨.hid, by rw [hx]; rfl, rfl⟩
    · exact ⟨x, hx, lx⟩
  refine ⟨h1, ⟨fun id k hk' => ?_, fun i j b x y hx hy lx ly hi hj => ?_⟩, h3, hsame⟩
  · by_cases hid : id ∈ hd
    · obtain ⟨x, hx, lx⟩ := hl id hid
      have e : k = x := by
        rw [List.getElem?_append_left (by rw [applyM_length]; exact hlt id hid), applyM_get_ne _ _ _ (hk id hid), hx] at hk'
        exact (Option.some.inj hk').symm
      subst e
      obtain ⟨k1, k2⟩ := hsame id (hlt id hid) (hk id hid)
      exact (hr.blk id k hx).mono h3 k1 (fun _ b hb => k2 ⟨k, hx, lx⟩ b hb)
    · have := h2.blk id k (by rw [hideB_get, if_neg hid]; exact hk')
      rw [env_hide hl'] at this
      exact this
  · have e : ∀ (i : Nat) (x : Blk), (applyM H r.m ++ r.o)[i]? = some x → x.live = true → ∃ y : Blk, (hideB hd (applyM H r.m ++ r.o))[i]? = some y ∧ y.live = true := by
      intro i x hx lx
      rw [hideB_get]
      split
      · exact ⟨.hid, by rw [hx]; rfl, rfl⟩
      · exact ⟨x, hx, lx⟩
    obtain ⟨x', hx', lx'⟩ := e i x hx lx
    obtain ⟨y', hy', ly'⟩ := e j y hy ly
    exact h2.inj i j b x' y' hx' hy' lx' ly' hi hj

end Go.AM
end
section
set_option linter.unusedSimpArgs false
set_option linter.unusedVariables false
namespace Go.AM
open Go

/-- The fence that lets all in, in a round or not. -/
def wideR : Option Nat → Fence
  | none => Fence.wide
  | some l => Fence.wide.inRound l

theorem wideR_fn (ro : Option Nat) (f : FuncId) : (wideR ro).fn f := by cases ro <;> exact trivial
theorem wideR_depth (ro : Option Nat) : (wideR ro).depth = none := by cases ro <;> rfl
theorem wideR_round (ro : Option Nat) : (wideR ro).round = ro := by cases ro <;> rfl
theorem wideR_room (ro : Option Nat) (n : Nat) : (wideR ro).room n := fun d hd => by rw [wideR_depth] at hd; cases hd

section
variable {P : Program} {ro : Option Nat} {n : Nat}

theorem callsIn_R {f : FuncId} {args : Array Value} {w : World} {R : Ending → World → Prop} (h : Calls P f args w R) : CallsIn (wideR ro) n P f args w R := by
  cases ro with
  | none => exact callsIn_wide.2 h
  | some l => exact (callsIn_wide.2 h : CallsIn Fence.wide n P f args w R)

theorem rowsIn_R {row : String} {args : Array Value} {w : World} {R : Value → World → Prop} (h : Rows P row args w R) : Go.RowsIn (wideR ro) n P row args w R := by
  have h0 : Go.RowsIn Fence.wide n P row args w R := fun c cs _ => let ⟨v, w', r, s⟩ := h c cs; ⟨v, w', r, stepsIn_wide.2 s⟩
  cases ro with
  | none => exact h0
  | some l => exact h0

theorem uponIn_R {o : Oper} {a : Act} {next next' : Act → World → Prop} {Q : Exit → Act → World → Prop} {r : Result Next} (hn : ∀ a w, next a w → next' a w) (h : o.upon P a next Q r) : o.uponIn (wideR ro) n P a next' Q r := by
  have hd : ∀ m, ((wideR ro).depth.isSome = true → 1 ≤ m) := fun m hm => by rw [wideR_depth] at hm; cases hm
  cases r with
  | ok x w' =>
    cases x <;> simp only [Oper.upon] at h <;> simp only [Oper.uponIn]
    all_goals first
      | exact hn _ _ h
      | (refine ⟨hd _, callsIn_R (Calls.mono h fun e w'' he => ?_)⟩; cases e <;> first | exact hn _ _ he | exact he)
      | (exact ⟨hd _, rowsIn_R (h.mono fun v w'' he => hn _ _ he)⟩)
      | exact h
  | halt x w' => cases x <;> simp only [Oper.upon] at h <;> simp only [Oper.uponIn] <;> exact h

/-- No operation of a region puts a call off. -/
def noDefer (ops : Array Oper) : Bool := ops.all fun o => match o.op with
  | .defer _ => false
  | _ => true

theorem noDefer_at {ops : Array Oper} (h : noDefer ops = true) {i : Nat} {o : Oper} (ho : ops[i]? = some o) : ∀ c, o.op ≠ .defer c := by
  intro c e
  unfold noDefer at h
  rw [Array.all_eq_true] at h
  obtain ⟨hi, h1⟩ := Array.getElem?_eq_some_iff.1 ho
  have := h i hi
  rw [h1, e] at this
  cases this

theorem wpInOp_R {ops : Array Oper} {Q : Exit → Act → World → Prop} (hnd : noDefer ops = true) (hQ : ∀ a w, ¬ Q .outgrown a w) {i : Nat} {K K' : Act → World → Prop} {a : Act} {w : World} (hK : ∀ a w, K a w → K' a w)
    (h : wpOp P ops Q i K a w) : wpOpIn (wideR ro) n P ops Q i K' a w := by
  unfold wpOp at h
  unfold wpOpIn
  split at h
  · rename_i ho
    simp only [ho]; exact hK _ _ h
  · rename_i o ho
    simp only [ho]
    split at h
    · rename_i hw
      rw [if_pos hw]
      refine ⟨fun f _ => wideR_fn ro f, ?_⟩
      rcases h with h | ⟨_, a', w', h⟩
      · rw [Oper.semAt_eq _ _ _ (noDefer_at hnd ho)]
        exact uponIn_R hK h
      · exact absurd h (hQ a' w')
    · rename_i hw
      rw [if_neg hw]
      exact ⟨fun f _ => wideR_fn ro f, hK _ _ h⟩

theorem wpOpsIn_R {ops : Array Oper} {Q : Exit → Act → World → Prop} (hnd : noDefer ops = true) (hQ : ∀ a w, ¬ Q .outgrown a w) : ∀ (l : List Nat) (a : Act) (w : World), wpOps P ops Q l a w → wpOpsIn (wideR ro) n P ops Q l a w
  | [], a, w, h => h
  | i :: l, a, w, h => by
    rw [wpOps_cons] at h
    rw [wpOpsIn_cons]
    exact wpInOp_R hnd hQ (fun a w => wpOpsIn_R hnd hQ l a w) h

theorem wpAnyIn_R {md : Region.Mode} {ops : Array Oper} {Q : Exit → Act → World → Prop} (hnd : noDefer ops = true) (hQ : ∀ a w, ¬ Q .outgrown a w) : ∀ (k : Nat) (listed : Array Bool) (a : Act) (w : World), wpAny P md ops Q k listed a w → wpAnyIn (wideR ro) n P md ops Q k listed a w
  | 0, listed, a, w, h => h
  | k + 1, listed, a, w, h => ⟨h.1, fun i hi => wpInOp_R hnd hQ (fun a w => wpAnyIn_R hnd hQ k _ a w) (h.2 i hi)⟩

theorem stepR_scope {b : Frame} {a : Act} {k : List Item} {cs : List Frame} {w : World} {c : Code} : step P (lone (b.atR a (.code (.scope c) :: k)) cs w) = .next (lone (b.atR a (.code c :: .inScope c :: k)) cs w) :=
  step_lone_go (by simp [stepG, stepG.exec, Frame.atR])
theorem stepR_inScope {b : Frame} {a : Act} {k : List Item} {cs : List Frame} {w : World} {c : Code} : step P (lone (b.atR a (.inScope c :: k)) cs w) = .next (lone (b.atR a k) cs w) :=
  step_lone_go (by simp [stepG, stepG.exec, Frame.atR])

theorem wpIn_scope_straight {F : Fence} {c : Code} {Q : Exit → Act → World → Prop} {a : Act} {w : World} (h : c.wpIn F n P (Exit.noGoto Q) a w) : (Code.scope c).wpIn F n P Q a w := by
  intro b k cs hro hb hr
  have h0 : (lone (b.atR a (.code (.scope c) :: k)) cs w).fenced P F := fenced_calm hb hr rfl
  obtain ⟨e, a₁, w₁, hq, harr⟩ := h b (.inScope c :: k) cs hro hb hr
  have hx : ∀ id, exitTo id (.inScope c :: k) = exitTo id k := fun id => by simp [exitTo]
  cases e with
  | normal => exact ⟨.normal, a₁, w₁, hq, .head h0 stepR_scope (StepsIn.trans harr (.one (fenced_calm hb hr rfl) stepR_inScope))⟩
  | exit id => exact ⟨.exit id, a₁, w₁, hq, fun k' hk => .head h0 stepR_scope (harr.1 k' (by rw [hx]; exact hk)),
      fun hr' hk => let ⟨k₁, h1, h2⟩ := harr.2 hr' (by rw [hx]; exact hk); ⟨k₁, h1, .head h0 stepR_scope h2⟩⟩
  | goto l => exact hq.elim
  | ret => exact ⟨_, a₁, w₁, hq, .of_steps (.one h0 stepR_scope) harr⟩
  | panic ch => exact ⟨_, a₁, w₁, hq, .of_steps (.one h0 stepR_scope) harr⟩
  | outgrown => exact ⟨_, a₁, w₁, hq, .of_steps (.one h0 stepR_scope) harr⟩
end
end Go.AM
end
section
set_option linter.unusedSimpArgs false
set_option linter.unusedVariables false
namespace Go.AM
open Go

def cGuard (ops : Array Oper) : Option (Nat × Bool) → Option (Option (Nat × Bool))
  | none => some none
  | some (j, b) => match (ops[j]?).bind (·.dst) with
    | some d => some (some (d, b))
    | none => none

def cOper (P : Program) (nt : Nat) (ops : Array Oper) (drw : Option Nat) (o : Oper) : Option AOper :=
  match cGuard ops o.guard with
  | some g => if (o.dst.all fun d => decide (d < nt)) = true then some ⟨o.dst, g, (cOp P drw o).getD (.row 0 [])⟩ else none
  | none => none

/-- What is put off: the marks of ranges over functions, in whose rounds nothing was put off. -/
def DfOk (n0 : Nat) (E : Env) (ds : List Deferred) : Prop :=
  ds.Nodup ∧ ∀ d ∈ ds, ∃ r, d = { target := .collected r, args := #[] } ∧ n0 ≤ r ∧ E.w.heap[r]? = some (.deferred (some [])) ∧ ¬ E.O r
theorem DfOk.mono {n0 : Nat} {E E' : Env} {ds : List Deferred} (h : DfOk n0 E ds) (he : Ext E E') : DfOk n0 E' ds :=
  ⟨h.1, fun d hd => by
    obtain ⟨r, h1, h2, h3, h4⟩ := h.2 d hd
    obtain ⟨k1, k2⟩ := he.keep r (Array.getElem?_eq_some_iff.1 h3).1 h4
    exact ⟨r, h1, h2, k1.trans h3, k2⟩⟩
theorem DfOk.nil (n0 : Nat) (E : Env) : DfOk n0 E [] := ⟨List.nodup_nil, fun d hd => by cases hd⟩

structure SR (n0 : Nat) (w0 : World) (L0 : Nat → Lc) (h : List Blk) (nt : Nat) (s : St) (a : Act) (w : World) (L : Nat → Lc) : Prop where
  hr : HR w (full h s) L
  tr : TR (envOf w (full h s) L) a s.t
  df : DfOk n0 (envOf w (full h s) L) a.defers
  nle : n0 ≤ w0.heap.size
  sz : a.tmps.size = nt
  ext : Ext (envOf w0 h L0) (envOf w (full h s) L)
  same : Same w0 w h L0 L (keysM s.m)

theorem TR.put {E E' : Env} {a : Act} {T : List (Nat × AV)} (ht : TR E a T) (he : Ext E E') {d : Nat} (hd : d < a.tmps.size) {v : AV} {cv : Value} (hv : AR E' v cv) :
    TR E' (a.put (some d) cv) ((d, v) :: T) := by
  intro i x hx
  simp only [look] at hx
  by_cases e : d = i
  · subst e
    rw [if_pos rfl] at hx
    cases hx
    simpa [Act.put, hd] using hv
  · rw [if_neg e] at hx
    have : (a.put (some d) cv).tmps.getD i Go.undef = a.tmps.getD i Go.undef := by
      simp [Act.put, Array.getD_eq_getD_getElem?, Array.getElem?_setIfInBounds, e]
    rw [this]
    exact (ht i x hx).mono he

theorem TR.mono {E E' : Env} {a : Act} {T : List (Nat × AV)} (ht : TR E a T) (he : Ext E E') : TR E' a T := fun i v hv => (ht i v hv).mono he

theorem look_keep (T : List (Nat × AV)) (i : Nat) (v : AV) : ∀ lv, look (keep T lv) i = some v → look T i = some v
  | [], h => by cases h
  | j :: l, h => by
    simp only [keep] at h
    split at h
    · rename_i x hx
      simp only [look] at h
      split at h
      · rename_i e; subst e; rw [hx]; exact h
      · exact look_keep T i v l h
    · exact look_keep T i v l h

theorem TR.keep {E : Env} {a : Act} {T : List (Nat × AV)} (ht : TR E a T) (lv : List Nat) : TR E a (keep T lv) := fun i v hv => ht i v (look_keep T i v lv hv)

section
variable {n0 : Nat} {P : Program} {w0 w w' : World} {L0 L L' : Nat → Lc} {h : List Blk} {nt : Nat} {s s' : St} {a : Act}

theorem SR.kp (hs : SR n0 w0 L0 h nt s a w L) (lv : List Nat) : SR n0 w0 L0 h nt (s.kp lv) a w L :=
  ⟨hs.hr, hs.tr.keep lv, hs.df, hs.nle, hs.sz, hs.ext, hs.same⟩

theorem live_ext (he : Ext (envOf w0 h L0) (envOf w (full h s) L)) {i : Nat} (hi : i < h.length) (hl : Live (full h s) i) : Live h i := he.lv i hi hl

/-- How a state goes on: what it is worth behind a step. -/
theorem SR.go (hs : SR n0 w0 L0 h nt s a w L) {d : Option Nat} (hd : (d.all fun d => decide (d < nt)) = true) {v : AV} {cv : Value} {ws : List Nat}
    (hr : HR w' (full h s') L') (ht : s'.t = s.t) (hv : AR (envOf w' (full h s') L') v cv) (he : Ext (envOf w (full h s) L) (envOf w' (full h s') L'))
    (hsame : Same w w' (full h s) L L' ws) (hk : Kp h s s' ws) (hlive : ∀ i, i < h.length → i ∉ keysM s.m → Live h i → Live (full h s) i) :
    SR n0 w0 L0 h nt (s'.put d v) (a.put d cv) w' L' := by
  have hS : Same w0 w' h L0 L' (keysM s'.m) := fun id hid hn => by
    have n1 : id ∉ keysM s.m := fun hm => hn (hk.old id hm)
    have n2 : id ∉ ws := fun hm => hn (hk.new id hm hid)
    obtain ⟨h1, h2⟩ := hs.same id hid n1
    obtain ⟨k1, k2⟩ := hsame id (by rw [full_length]; show id < h.length + s.o.length; omega) n2
    refine ⟨k1.trans h1, fun hl b hb => ?_⟩
    rw [← h2 hl b hb]
    exact k2 (hlive id hid n1 hl) b (by rw [h1]; exact hb)
  cases d with
  | none => exact ⟨hr, by rw [show (s'.put none v).t = s'.t from rfl, ht]; exact hs.tr.mono he, hs.df.mono he, hs.nle, hs.sz, hs.ext.trans he, hS⟩
  | some d =>
    refine ⟨hr, ?_, hs.df.mono he, hs.nle, ?_, hs.ext.trans he, hS⟩
    · show TR _ _ ((d, v) :: s'.t)
      rw [ht]
      exact hs.tr.put he (by rw [hs.sz]; simpa using hd) hv
    · show (a.tmps.setIfInBounds d cv).size = nt
      simpa using hs.sz

theorem full_out (h : List Blk) (s : St) {i : Nat} (hi : i < h.length) (hn : i ∉ keysM s.m) : (full h s)[i]? = h[i]? := by
  unfold full
  rw [List.getElem?_append_left (by rw [applyM_length]; exact hi), applyM_get_ne _ _ _ hn]

theorem hlive_all (h : List Blk) (s : St) : ∀ i, i < h.length → i ∉ keysM s.m → Live h i → Live (full h s) i :=
  fun i hi hn ⟨x, hx, lx⟩ => ⟨x, by rw [full_out h s hi hn]; exact hx, lx⟩

theorem ob_some {α β : Type} {x : Option α} {k : α → Option β} {r : β} (h : ob x k = some r) : ∃ a, x = some a ∧ k a = some r := by
  cases x with
  | none => cases h
  | some a => exact ⟨a, rfl, h⟩

theorem TR.dup {E : Env} {a : Act} {T : List (Nat × AV)} (ht : TR E a T) {g : Nat} {v : AV} (hg : look T g = some v) : TR E a ((g, v) :: T) := by
  intro i x hx
  simp only [look] at hx
  split at hx
  · rename_i e; subst e; cases hx; exact ht _ _ hg
  · exact ht i x hx

/-- By a guard. -/
theorem gdo_ok {α : Type} {ops : Array Oper} {o : Oper} {g : Option (Nat × Bool)} {yes no : St → Option α} {r : α} (hs : SR n0 w0 L0 h nt s a w L) (hg : cGuard ops o.guard = some g) (hr : gdo s g yes no = some r) :
    ∃ s1 c, SR n0 w0 L0 h nt s1 a w L ∧ s1.m = s.m ∧ s1.o = s.o ∧ Region.wanted o (yielded ops a.tmps) = c ∧ ((c = true ∧ yes s1 = some r) ∨ (c = false ∧ no s1 = some r)) := by
  unfold cGuard at hg
  split at hg
  · rename_i e
    cases hg
    exact ⟨s, true, hs, rfl, rfl, by simp [Region.wanted, e], .inl ⟨rfl, hr⟩⟩
  · rename_i j b e
    split at hg
    · rename_i d hd
      cases hg
      simp only [gdo] at hr
      split at hr
      · rename_i x hx
        have hval := (hs.tr d _ hx).inv_g.inv_bool
        have hw : Region.wanted o (yielded ops a.tmps) = (x == b) := by
          simp only [Region.wanted, e, yielded, hd, Option.bind_some]
          rw [Array.getD_eq_getD_getElem?] at hval
          cases hq : a.tmps[d]? with
          | none => rw [hq] at hval; cases hval
          | some y => rw [hq] at hval; simp at hval; subst hval; simp
        split at hr
        · rename_i hxb
          subst hxb
          exact ⟨s.put (some d) (.g (.bool x)), true, ⟨hs.hr, hs.tr.dup hx, hs.df, hs.nle, hs.sz, hs.ext, hs.same⟩, rfl, rfl, by rw [hw]; simp, .inl ⟨rfl, hr⟩⟩
        · rename_i hxb
          have hx' : x = !b := by cases x <;> cases b <;> simp_all
          subst hx'
          exact ⟨s.put (some d) (.g (.bool (!b))), false, ⟨hs.hr, hs.tr.dup hx, hs.df, hs.nle, hs.sz, hs.ext, hs.same⟩, rfl, rfl, by rw [hw]; cases b <;> rfl, .inr ⟨rfl, hr⟩⟩
      · rename_i hx
        refine ⟨s, false, hs, rfl, rfl, ?_, .inr ⟨rfl, hr⟩⟩
        simp only [Region.wanted, e, yielded, hd, Option.bind_some]
        have hv := hs.tr d _ hx
        have hu : a.tmps.getD d Go.undef = Go.undef := by generalize a.tmps.getD d Go.undef = q at hv; cases hv; rfl
        rw [Array.getD_eq_getD_getElem?] at hu
        cases hq : a.tmps[d]? with
        | none => simp
        | some y => rw [hq] at hu; simp at hu; subst hu; simp [Go.undef]
      · cases hr
    · cases hg

/-- As 'gdo_ok', and what is the same where it is wanted. -/
theorem gdo_ok2 {α : Type} {ops : Array Oper} {o : Oper} {g : Option (Nat × Bool)} {yes no : St → Option α} {r : α} (hs : SR n0 w0 L0 h nt s a w L) (hg : cGuard ops o.guard = some g) (hr : gdo s g yes no = some r) :
    ∃ s1 c, SR n0 w0 L0 h nt s1 a w L ∧ s1.m = s.m ∧ s1.o = s.o ∧ Region.wanted o (yielded ops a.tmps) = c ∧ ((c = true ∧ yes s1 = some r ∧ gdOff s g = false ∧ ∀ i v, look s.t i = some v → (∀ b, v ≠ .g (.bool b)) → look s1.t i = some v) ∨ (c = false ∧ no s1 = some r)) := by
  unfold cGuard at hg
  split at hg
  · rename_i e
    cases hg
    exact ⟨s, true, hs, rfl, rfl, by simp [Region.wanted, e], .inl ⟨rfl, hr, rfl, fun i v h1 _ => h1⟩⟩
  · rename_i j b e
    split at hg
    · rename_i d hd
      cases hg
      simp only [gdo] at hr
      split at hr
      · rename_i x hx
        have hval := (hs.tr d _ hx).inv_g.inv_bool
        have hw : Region.wanted o (yielded ops a.tmps) = (x == b) := by
          simp only [Region.wanted, e, yielded, hd, Option.bind_some]
          rw [Array.getD_eq_getD_getElem?] at hval
          cases hq : a.tmps[d]? with
          | none => rw [hq] at hval; cases hval
          | some y => rw [hq] at hval; simp at hval; subst hval; simp
        split at hr
        · rename_i hxb
          subst hxb
          exact ⟨s.put (some d) (.g (.bool x)), true, ⟨hs.hr, hs.tr.dup hx, hs.df, hs.nle, hs.sz, hs.ext, hs.same⟩, rfl, rfl, by rw [hw]; simp, .inl ⟨rfl, hr, by simp [gdOff, hx], fun i v h1 h2 => by
            show (if d = i then some (AV.g (.bool x)) else look s.t i) = some v
            by_cases hdi : d = i
            · subst hdi; rw [hx] at h1; cases h1; exact absurd rfl (h2 x)
            · rw [if_neg hdi]; exact h1⟩⟩
        · rename_i hxb
          have hx' : x = !b := by cases x <;> cases b <;> simp_all
          subst hx'
          exact ⟨s.put (some d) (.g (.bool (!b))), false, ⟨hs.hr, hs.tr.dup hx, hs.df, hs.nle, hs.sz, hs.ext, hs.same⟩, rfl, rfl, by rw [hw]; cases b <;> rfl, .inr ⟨rfl, hr⟩⟩
      · rename_i hx
        refine ⟨s, false, hs, rfl, rfl, ?_, .inr ⟨rfl, hr⟩⟩
        simp only [Region.wanted, e, yielded, hd, Option.bind_some]
        have hv := hs.tr d _ hx
        have hu : a.tmps.getD d Go.undef = Go.undef := by generalize a.tmps.getD d Go.undef = q at hv; cases hv; rfl
        rw [Array.getD_eq_getD_getElem?] at hu
        cases hq : a.tmps[d]? with
        | none => simp
        | some y => rw [hq] at hu; simp at hu; subst hu; simp [Go.undef]
      · cases hr
    · cases hg

theorem run_call {P : Program} {c : Call} {o : Oper} {x : Operand} (ho : o.op = .call c) (hx : c.callee = .value x) {f : FuncId} {first caps : Array Value} (hf : a.eval x = .func (.func f) first caps) (w : World) :
    (execOp a.eval o).run P w = (callFunc f (first ++ c.args.map a.eval ++ caps)).run P w := by
  simp [execOp, ho, resolve, hx, hf, Deferred.ofValue, invoke]

theorem GR.inv_fn {E : Env} {f : FuncId} {v : Value} (h : GR E (.fn f) v) : v = .func (.func f) #[] #[] := by cases h; rfl

theorem args_ok {E : Env} (ht : TR E a s.t) {xs : List Operand} {Xs : List Opd} {vs : List AV} (h1 : cOpds xs = some Xs) (h2 : vals s Xs = some vs) : ArgsOk E vs (xs.toArray.map a.eval) := by
  obtain ⟨k1, k2⟩ := cOpds_vals ht h1 h2
  refine ⟨by simp [k1], fun j u y hu hy => ?_⟩
  simp at hy
  obtain ⟨x, hx, rfl⟩ := hy
  exact k2 j x u hx hu

/-- A call. -/
theorem evCall_ok {E : FnS} (hE : FnOk P E) (hs : SR n0 w0 L0 h nt s a w L) {o : Oper} {c : Call} {x : Operand} {xs : List Opd} {fo : Opd} {fv v : AV} {vs : List AV} {ws : List Nat} {hd : List Nat}
    (ho : o.op = .call c) (hx : c.callee = .value x) (hfo : cOpd x = some fo) (hxs : cOpds c.args.toList = some xs) (hfv : val s fo = some fv) (hvs : vals s xs = some vs)
    (he : evCall E h hd s fv vs = some (v, s', ws)) {K : Act → World → Prop} {Q : Exit → Act → World → Prop}
    (hK : ∀ cv w' L', HR w' (full h s') L' → s'.t = s.t → AR (envOf w' (full h s') L') v cv → Ext (envOf w (full h s) L) (envOf w' (full h s') L') → Same w w' (full h s) L L' ws →
      Kp h s s' ws → (∀ i, i ∈ ws → i ∉ hd) → K (a.put o.dst cv) w') : o.wp P a w K Q := by
  unfold evCall at he
  split at he
  case isFalse => cases he
  rename_i hlb
  have hl : ∀ i, i ∈ hd → Live (full h s) i := fun i hi => isLiveB_iff.1 (List.all_eq_true.1 hlb i hi)
  have hargs := args_ok hs.tr hxs hvs
  rw [Array.toArray_toList] at hargs
  have key : ∀ (f : FuncId) (first caps : Array Value) (ys : List AV), a.eval x = .func (.func f) first caps → ArgsOk (envOf w (full h s) L) ys (first ++ c.args.map a.eval ++ caps) →
      fin h hd s (E f ys (hideB hd (full h s))) = some (v, s', ws) → o.wp P a w K Q := by
    intro f first caps ys hf hys hfin
    unfold fin at hfin
    split at hfin
    case h_2 => cases hfin
    rename_i r m oo hr
    split at hfin
    case isFalse => cases hfin
    rename_i hall
    cases hfin
    have hk : ∀ i, i ∈ keysM m → i ∉ hd := fun i hi hh => by
      obtain ⟨p, hp, e⟩ := List.mem_map.1 hi
      have := List.all_eq_true.1 hall p hp
      rw [e] at this
      simp at this
      exact this hh
    have hF := (hE f ys _ _ hr).1.hide hl (fun i hi hm => hk i hm hi)
    have hfull : applyM (full h s) m ++ oo = full h ((setAll h s m).app oo) := by rw [full_app, full_setAll]
    have hkp : Kp h s ((setAll h s m).app oo) (m.map (·.1)) := ⟨(setAll_keys h s m).1, (setAll_keys h s m).2, fun i hi hl => by
      rw [← hfull, List.getElem?_append_left (by rw [applyM_length]; exact hl), applyM_get_ne _ _ _ hi]⟩
    have ht : ((setAll h s m).app oo).t = s.t := by
      show (setAll h s m).t = s.t
      have : ∀ m, (setAll h s m).t = s.t := fun m => by
        induction m with
        | nil => rfl
        | cons p r ih => obtain ⟨i, b⟩ := p; simp only [setAll, setB_t, ih]
      exact this m
    have hrun := run_call (P := P) ho hx hf w
    rcases hF w L _ hs.hr hys with ⟨c1, c2⟩ | ⟨_, cv, w', c1, c2⟩
    · rw [c1] at hrun
      unfold Oper.wp
      rw [hrun, Oper.upon_enter]
      refine Calls.mono c2 fun e w' ⟨cv, he, L', h1, h2, h3, h4⟩ => ?_
      subst he
      simp only [hfull] at h1 h2 h3
      exact hK cv w' L' h2 ht h1 h3 h4 hkp hk
    · rw [c1] at hrun
      obtain ⟨L', h1, h2, h3, h4⟩ := c2
      unfold Oper.wp
      rw [hrun, Oper.upon_value]
      simp only [hfull] at h1 h2 h3
      exact hK cv w' L' h2 ht h1 h3 h4 hkp hk
  split at he
  · rename_i f
    have hf := (cOpd_ok hs.tr hfo hfv).inv_g.inv_fn
    refine key f #[] #[] vs hf ?_ he
    simpa using hargs
  · rename_i f caps
    have hf := cOpd_ok hs.tr hfo hfv
    cases hq : a.eval x with
    | func g first C => 
      rw [hq] at hf
      cases hf with
      | fv hn hc =>
      refine key f _ _ (vs ++ caps) hq ?_ he
      rw [Array.empty_append]
      obtain ⟨h1, h2⟩ := hargs
      refine ⟨by simp [h1, hn], fun j u y hu hy => ?_⟩
      by_cases hlt : j < vs.length
      · rw [List.getElem?_append_left hlt] at hu
        rw [Array.getElem?_append_left (by rw [← h1]; exact hlt)] at hy
        exact h2 j u y hu hy
      · rw [List.getElem?_append_right (by omega)] at hu
        rw [Array.getElem?_append_right (by rw [← h1]; omega)] at hy
        exact hc _ u y hu (by rw [h1]; exact hy)
    | _ => rw [hq] at hf; cases hf <;> (rename_i hg; cases hg)
  · rename_i f first'
    have hf := cOpd_ok hs.tr hfo hfv
    cases hq : a.eval x with
    | func g first C =>
      rw [hq] at hf
      cases hf with
      | bv hn hc =>
      refine key f _ _ (first' ++ vs) hq ?_ he
      rw [Array.append_empty]
      obtain ⟨h1, h2⟩ := hargs
      refine ⟨by simp [h1, hn], fun j u y hu hy => ?_⟩
      by_cases hlt : j < first'.length
      · rw [List.getElem?_append_left hlt] at hu
        rw [Array.getElem?_append_left (by rw [← hn]; exact hlt)] at hy
        exact hc j u y hu hy
      · rw [List.getElem?_append_right (by omega)] at hu
        rw [Array.getElem?_append_right (by rw [← hn]; omega)] at hy
        exact h2 _ u y hu (by rw [hn]; exact hy)
    | _ => rw [hq] at hf; cases hf <;> (rename_i hg; cases hg)
  · cases he
end
end Go.AM
end
section
set_option linter.unusedSimpArgs false
set_option linter.unusedVariables false
namespace Go.AM
open Go

section
variable {n0 : Nat} {P : Program} {w0 w w' : World} {L0 L L' : Nat → Lc} {h : List Blk} {nt : Nat} {s s' : St} {a : Act}

theorem cCall_call {P : Program} {drw : Option Nat} {o : Oper} {fo : Opd} {xs : List Opd} (hc : cOp P drw o = some (.call fo xs)) :
    ∃ c x, o.op = .call c ∧ c.callee = .value x ∧ cOpd x = some fo ∧ cOpds c.args.toList = some xs := by
  cases ho : o.op with
  | call c =>
    simp only [cOp, ho, cCall] at hc
    split at hc
    · rename_i f hf
      split at hc
      · rename_i g ys h1 h2
        cases hc
        exact ⟨c, f, rfl, hf, h1, h2⟩
      · cases hc
    · cases hc
    · rename_i b hb
      split at hc
      · rename_i ys hy
        exfalso
        unfold cBuiltin at hc
        repeat' split at hc
        all_goals (first | (cases hc; done) | skip)
      · cases hc
  | assign x => 
    exfalso
    simp only [cOp, ho] at hc
    repeat' split at hc
    all_goals (first | (cases hc; done) | (simp [Option.map_eq_some_iff] at hc; done))
  | binOp op t x y p =>
    exfalso
    simp only [cOp, ho, Option.bind_eq_some_iff, bind] at hc
    obtain ⟨X, _, Y, _, hc⟩ := hc
    repeat' split at hc
    all_goals (first | (cases hc; done) | (simp [Option.map_eq_some_iff] at hc; done) | skip)
  | _ =>
    exfalso
    simp only [cOp, ho] at hc
    repeat' split at hc
    all_goals (first | (cases hc; done) | (simp [Option.map_eq_some_iff, Option.bind_eq_some_iff, bind] at hc; done) | (simp [Option.map_eq_some_iff, Option.bind_eq_some_iff, bind] at hc; repeat' split at hc; all_goals (first | (cases hc; done) | (simp at hc; done))) | contradiction | (simp_all; done))

theorem exOp_other {E : FnS} {nb : Nat} {hd : List Nat} {op : AOp} (hn : ∀ f xs, op ≠ .call f xs) :
    exOp E h nb hd s op = if op.acts = true then evI h nb s op else ob (evP h s op) fun p => some (p.1, s, []) := by
  cases op <;> first | rfl | exact absurd rfl (hn _ _)

/-- An operation: what comes of it. -/
theorem exOp_ok {E : FnS} (hE : FnOk P E) (hs : SR n0 w0 L0 h nt s a w L) {o : Oper} {ao : AOp} {drw : Option Nat} {nb : Nat} {hd : List Nat} {v : AV} {ws : List Nat}
    (hc : cOp P drw o = some ao) (he : exOp E h nb hd s ao = some (v, s', ws)) {K : Act → World → Prop} {Q : Exit → Act → World → Prop}
    (hK : ∀ cv w' L', HR w' (full h s') L' → s'.t = s.t → AR (envOf w' (full h s') L') v cv → Ext (envOf w (full h s) L) (envOf w' (full h s') L') → Same w w' (full h s) L L' ws →
      Kp h s s' ws → K (a.put o.dst cv) w') : o.wp P a w K Q := by
  by_cases hcall : ∃ f xs, ao = .call f xs
  · obtain ⟨f, xs, rfl⟩ := hcall
    obtain ⟨c, x, ho, hx, h1, h2⟩ := cCall_call hc
    simp only [exOp] at he
    split at he
    · rename_i fv vs hf hv
      exact evCall_ok hE hs ho hx h1 h2 hf hv he (fun cv w' L' k1 k2 k3 k4 k5 k6 _ => hK cv w' L' k1 k2 k3 k4 k5 k6)
    · cases he
  · rw [exOp_other (fun f xs e => hcall ⟨f, xs, e⟩)] at he
    split at he
    · obtain ⟨⟨nx, w', L', h1, h2, h3, h4, h5⟩, ht⟩ := evI_ok hs.hr hs.tr hc he
      unfold Oper.wp
      rw [h1]
      rcases h2 with ⟨cv, rfl, hv⟩ | ⟨rfl, rfl⟩
      · rw [Oper.upon_value]
        exact hK cv w' L' h3 ht hv h4 h5 (evI_keys he)
      · rw [Oper.upon_skip]
        exact hK _ w' L' h3 ht .undef h4 h5 (evI_keys he)
    · obtain ⟨⟨v', rs⟩, hv, he⟩ := ob_some he
      cases he
      obtain ⟨cv, h1, h2⟩ := evP_ok hs.hr hs.tr hc hv
      unfold Oper.wp
      rw [h2 w (fun _ => .self _ _), Oper.upon_value]
      exact hK cv w L hs.hr rfl h1 (.refl _) (fun _ _ _ => ⟨rfl, fun _ _ _ => rfl⟩) (.refl _ _)

/-- What a step leaves as it is. -/
def Kept (w w' : World) (h : List Blk) (s : St) (L L' : Nat → Lc) (ws : List Nat) : Prop :=
  Same w w' (full h s) L L' ws

theorem evOne_ok {E : FnS} (hE : FnOk P E) (hs : SR n0 w0 L0 h nt s a w L) {ops : Array Oper} {o : Oper} {i : Nat} (hi : ops[i]? = some o) {ao : AOper} {drw : Option Nat} {nb : Nat} {hd : List Nat}
    {ws : List Nat} (hc : cOper P nt ops drw o = some ao) (he : evOne E h nb hd s ao = some (s', ws)) {K : Act → World → Prop} {Q : Exit → Act → World → Prop}
    (hK : ∀ a' w' L', SR n0 w0 L0 h nt s' a' w' L' → Same w w' (full h s) L L' ws → Ext (envOf w (full h s) L) (envOf w' (full h s') L') → (∀ i, i ∉ ws → i < (full h s).length → (full h s')[i]? = (full h s)[i]?) → K a' w') : wpOp P ops Q i K a w := by
  unfold cOper at hc
  split at hc
  case h_2 => cases hc
  rename_i g hg
  split at hc
  case isFalse => cases hc
  rename_i hd'
  cases hc
  unfold evOne at he
  simp only at he
  obtain ⟨s1, c, hs1, hm1, ho1, hw, hcase⟩ := gdo_ok hs hg he
  have hf1 : full h s1 = full h s := by unfold full; rw [hm1, ho1]
  rw [← hf1] at hK
  unfold wpOp
  simp only [hi, hw]
  rcases hcase with ⟨rfl, he⟩ | ⟨rfl, he⟩
  · rw [if_pos rfl]
    obtain ⟨⟨v, s2, ws2⟩, hx, he⟩ := ob_some he
    cases he
    obtain ⟨op, hop, hgd'⟩ : ∃ op, cOp P drw o = some op ∧ (cOp P drw o).getD (.row 0 []) = op := by
      cases hq : cOp P drw o with
      | none => rw [hq] at hx; cases hx
      | some op => exact ⟨op, rfl, rfl⟩
    rw [hgd'] at hx
    refine .inl (exOp_ok hE hs1 hop hx fun cv w' L' k1 k2 k3 k4 k5 k6 => hK _ _ L' (hs1.go hd' k1 k2 k3 k4 k5 k6 (hlive_all h s1)) k5 ?_ ?_)
    · cases hdst : o.dst <;> exact k4
    · cases hdst : o.dst <;> exact k6.stay
  · cases he
    rw [if_neg (by simp)]
    refine hK _ _ L ?_ (fun _ _ _ => ⟨rfl, fun _ _ _ => rfl⟩) ?_ ?_
    · exact hs1.go hd' hs1.hr rfl .undef (.refl _) (ws := []) (fun _ _ _ => ⟨rfl, fun _ _ _ => rfl⟩) (.refl _ _) (hlive_all h s1)
    · cases hdst : o.dst <;> exact .refl _
    · cases hdst : o.dst <;> exact fun _ _ _ => rfl

/-- A region's operations, as they stand. -/
def cOps (P : Program) (nt : Nat) (ops : Array Oper) : List Oper → Option (List AOper)
  | [] => some []
  | o :: r => match cOper P nt ops none o, cOps P nt ops r with
    | some x, some y => some (x :: y)
    | _, _ => none

theorem evOps_ok {E : FnS} (hE : FnOk P E) {ops : Array Oper} {Q : Exit → Act → World → Prop} : ∀ (l : List Oper) (k : Nat) (al : List AOper) (s : St) (a : Act) (w : World) (L : Nat → Lc), (∀ (j : Nat), l[j]? = ops[k + j]?) →
    cOps P nt ops l = some al → SR n0 w0 L0 h nt s a w L → evOps E h al s = some s' → (∀ a' w' L', SR n0 w0 L0 h nt s' a' w' L' → Q .normal a' w') → wpOps P ops Q (List.range' k l.length) a w
  | [], k, al, s, a, w, L, hl, hc, hs, he, hQ => by
    cases hc
    simp only [evOps] at he
    cases he
    exact hQ a w L hs
  | o :: r, k, al, s, a, w, L, hl, hc, hs, he, hQ => by
    simp only [cOps] at hc
    split at hc
    case h_2 => cases hc
    rename_i x y hx hy
    cases hc
    simp only [evOps] at he
    obtain ⟨⟨s1, ws⟩, h1, he⟩ := ob_some he
    simp only [List.length_cons, List.range'_succ]
    rw [wpOps_cons]
    refine evOne_ok hE hs (by have := hl 0; simpa using this.symm) hx h1 fun a' w' L' k1 _ _ _ => ?_
    exact evOps_ok hE r (k + 1) y s1 a' w' L' (fun j => by have := hl (j + 1); simp at this; rw [this]; congr 1; omega) hy k1 he hQ

theorem evReg_ok {E : FnS} (hE : FnOk P E) {ops : Array Oper} {id : Nat} {Q : Exit → Act → World → Prop} {al : List AOper} (hc : cOps P nt ops ops.toList = some al) (hs : SR n0 w0 L0 h nt s a w L)
    (he : evOps E h al s = some s') (hQ : ∀ a' w' L', SR n0 w0 L0 h nt s' a' w' L' → Q .normal a' w') {ro : Option Nat} {fn : Nat} (hnd : noDefer ops = true) (hG : ∀ a w, ¬ Q .outgrown a w) : (Code.region id ops false).wpIn (wideR ro) fn P Q a w := by
  refine wpIn_region (wpOpsIn_R hnd hG _ _ _ ?_)
  have := evOps_ok hE (Q := Q) ops.toList 0 al s a w L (fun j => by simp) hc hs he hQ
  simpa [List.range_eq_range'] using this

end
end Go.AM
end
section
set_option linter.unusedSimpArgs false
set_option linter.unusedVariables false
namespace Go.AM
open Go

/-- The number of allocs ahead of an operation of a region. -/
def allocNo (ops : Array Oper) (i : Nat) : Nat :=
  ((ops.toList.take i).filter fun o => match o.op with | .alloc _ => true | _ => false).length

def cDrw (P : Program) (nt : Nat) (ops : Array Oper) (i : Nat) : Option AOper :=
  match ops[i]? with
  | some o => cOper P nt ops (some (allocNo ops i)) o
  | none => none

def takeable (ld : Bool) (o : AOper) : Bool :=
  !o.op.acts && (match o.op with
    | .call .. | .row .. => false
    | .load .. | .glob _ => ld
    | _ => true)

def takeB (P : Program) (nt : Nat) (ops : Array Oper) (ld : Bool) (listed : Array Bool) (i : Nat) : Bool :=
  match cDrw P nt ops i with
  | some o => takeable ld o && Region.free .any ops listed i
  | none => false

def cAll (f : Nat → Option Tree) (c : Nat → Option AOper) : List Nat → Option Tree
  | [] => none
  | i :: [] => match c i, f i with
    | some o, some t => some (.one o t)
    | _, _ => none
  | i :: r => match c i, f i, cAll f c r with
    | some o, some t, some r => some (.alt o t r)
    | _, _, _ => none

/-- Does an operation wait, by an edge, for another? -/
def waitsOn (ops : Array Oper) (j i : Nat) : Bool :=
  match ops[j]? with
  | some oj => oj.after.any fun e => Region.binds .any e && e.on == i
  | none => false

def isLdAt (ops : Array Oper) (i : Nat) : Bool :=
  match ops[i]? with
  | some o => isLd o.op
  | none => false

/-- May an operation come ahead of some load? -/
def ndB (ops : Array Oper) (j : Nat) : Bool := (List.range ops.size).any fun i => isLdAt ops i && !waitsOn ops j i

/-- Do all that are left wait for all loads? -/
def freed (ops : Array Oper) (listed : Array Bool) : Bool := (List.range ops.size).all fun j => listed.getD j true || !ndB ops j

/-- The ways of a region, so many operations being left; no load is among these. -/
def cTreeB (P : Program) (nt : Nat) (ops : Array Oper) : Nat → Array Bool → Option Tree
  | 0, listed => if (Region.ready .any ops listed).isEmpty = true then some .leaf else none
  | n + 1, listed =>
    if (Region.ready .any ops listed).isEmpty = true then some .leaf else
    match (Region.ready .any ops listed).find? (takeB P nt ops false listed) with
    | some i => match cDrw P nt ops i, cTreeB P nt ops n (listed.setIfInBounds i true) with
      | some o, some t => some (.take o t)
      | _, _ => none
    | none => cAll (fun i => cTreeB P nt ops n (listed.setIfInBounds i true)) (cDrw P nt ops) (Region.ready .any ops listed)

/-- The ways of a region, so many operations being left. -/
def cTree (P : Program) (nt : Nat) (ops : Array Oper) (hm : Bool) : Nat → Bool → Array Bool → Option Tree
  | 0, _, listed => if (Region.ready .any ops listed).isEmpty = true then some .leaf else none
  | n + 1, ld, listed =>
    if (Region.ready .any ops listed).isEmpty = true then some .leaf else
    if freed ops listed = true then (cTreeB P nt ops (n + 1) listed).map .free else
    match (Region.ready .any ops listed).find? (takeB P nt ops ld listed) with
    | some i => match cDrw P nt ops i, cTree P nt ops hm n ld (listed.setIfInBounds i true) with
      | some o, some t => some (.take o t)
      | _, _ => none
    | none => cAll (fun i => cTree P nt ops hm n hm (listed.setIfInBounds i true)) (cDrw P nt ops) (Region.ready .any ops listed)

/-- Whatever order is picked, S being shown behind each operation that may come ahead of a load. -/
def wpAnyG (P : Program) (ops : Array Oper) (Q : Exit → Act → World → Prop) (S : World → Prop) : Nat → Array Bool → Act → World → Prop
  | 0, listed, a, w => Region.ready .any ops listed = [] ∧ Q .normal a w
  | fuel + 1, listed, a, w =>
    (Region.ready .any ops listed = [] → Q .normal a w) ∧
    ∀ i ∈ Region.ready .any ops listed, wpOp P ops Q i (fun a' w' => (ndB ops i = true → S w → S w') ∧ wpAnyG P ops Q S fuel (listed.setIfInBounds i true) a' w') a w

section
variable {P : Program} {ops : Array Oper} {Q : Exit → Act → World → Prop} {S : World → Prop}

theorem wpAny_of_G : ∀ (fuel : Nat) (listed : Array Bool) (a : Act) (w : World), wpAnyG P ops Q S fuel listed a w → wpAny P .any ops Q fuel listed a w
  | 0, _, _, _, h => h
  | fuel + 1, _, _, _, h => ⟨h.1, fun i hi => wpOp_mono (fun a' w' h' => wpAny_of_G fuel _ a' w' h'.2) (h.2 i hi)⟩

theorem freed_set {listed : Array Bool} {i : Nat} (h : freed ops listed = true) : freed ops (listed.setIfInBounds i true) = true := by
  simp only [freed, List.all_eq_true, List.mem_range, Bool.or_eq_true] at h ⊢
  intro j hj
  rcases h j hj with h | h
  · by_cases e : i = j
    · subst e
      left
      by_cases hlt : i < listed.size
      · simp [Array.getD_eq_getD_getElem?, hlt]
      · simp [Array.getD_eq_getD_getElem?, hlt]
    · left; rw [getD_set_ne true e]; exact h
  · exact .inr h

theorem freed_nd {listed : Array Bool} (h : freed ops listed = true) {i : Nat} (hi : i ∈ Region.ready .any ops listed) : ndB ops i = false := by
  simp only [freed, List.all_eq_true, List.mem_range, Bool.or_eq_true] at h
  obtain ⟨h1, o, h2, _⟩ := mem_ready.1 hi
  rcases h i (Array.getElem?_eq_some_iff.1 h2).1 with h3 | h3
  · rw [h1] at h3; cases h3
  · simpa using h3

theorem wpAnyG_of_any : ∀ (fuel : Nat) (listed : Array Bool) (a : Act) (w : World), freed ops listed = true → wpAny P .any ops Q fuel listed a w → wpAnyG P ops Q S fuel listed a w
  | 0, _, _, _, _, h => h
  | fuel + 1, _, _, _, hf, h => ⟨h.1, fun i hi => wpOp_mono (fun a' w' h' => ⟨fun hn => (by rw [freed_nd hf hi] at hn; cases hn), wpAnyG_of_any fuel _ a' w' (freed_set hf) h'⟩) (h.2 i hi)⟩

/-- One that may come up may be taken first: a load where S holds whenever it has not come up. -/
theorem wpAnyG_first {i : Nat} {oi : Oper} {v : Value} (hi : ops[i]? = some oi) (hsel : ∀ (j : Nat) (o : Oper) cs b, ops[j]? = some o → o.op ≠ .select cs b)
    (hQ : ∀ c a w, Q (.panic c) (a.put oi.dst v) w → Q (.panic c) a w) :
    ∀ (fuel : Nat) (listed : Array Bool) (a : Act) (w : World),
      (∀ j oj, ops[j]? = some oj → j ≠ i → listed.getD j true = false → (∀ e ∈ oj.after, Region.binds .any e = true → e.on ≠ i) → oi.apart ops oj = true) →
      i ∈ Region.ready .any ops listed → YieldsIf P ops (fun w' => isLd oi.op = true → S w') oi v a → S w →
      wpAnyG P ops Q S fuel (listed.setIfInBounds i true) (a.put oi.dst v) w → wpAnyG P ops Q S (fuel + 1) listed a w := by
  have main : ∀ (fuel : Nat) (listed : Array Bool) (a : Act) (w : World),
      (∀ j oj, ops[j]? = some oj → j ≠ i → listed.getD j true = false → (∀ e ∈ oj.after, Region.binds .any e = true → e.on ≠ i) → oi.apart ops oj = true) →
      i ∈ Region.ready .any ops listed → YieldsIf P ops (fun w' => isLd oi.op = true → S w') oi v a → (isLd oi.op = true → S w) →
      wpAnyG P ops Q S fuel (listed.setIfInBounds i true) (a.put oi.dst v) w → wpAnyG P ops Q S (fuel + 1) listed a w := by
    intro fuel
    induction fuel with
    | zero =>
      intro listed a w _ hr hy hS H
      refine ⟨fun h => (by rw [h] at hr; cases hr), fun j hj => ?_⟩
      by_cases hji : j = i
      · subst hji; exact hy.wpOp hi hS ⟨fun _ h => h, H⟩
      · have := ready_mono hj hji
        rw [H.1] at this
        cases this
    | succ fuel ih =>
      intro listed a w hfree hr hy hS H
      refine ⟨fun h => (by rw [h] at hr; cases hr), fun j hj => ?_⟩
      by_cases hji : j = i
      · subst hji; exact hy.wpOp hi hS ⟨fun _ h => h, H⟩
      · have hahead := H.2 j (ready_mono hj hji)
        obtain ⟨hjun, oj, hoj, hall⟩ := mem_ready.1 hj
        have hnot : ∀ e ∈ oj.after, Region.binds .any e = true → e.on ≠ i := by
          intro e he hb heq
          have hl := hall e he hb
          have hu := (mem_ready.1 hr).1
          rw [heq] at hl
          rcases Nat.lt_or_ge i listed.size with h' | h'
          · simp [h'] at hu hl; rw [hu] at hl; cases hl
          · simp [Array.getElem?_eq_none h'] at hl
        have hnd : isLd oi.op = true → ndB ops j = true := fun hl => by
          simp only [ndB, List.any_eq_true, List.mem_range, Bool.and_eq_true]
          refine ⟨i, (Array.getElem?_eq_some_iff.1 hi).1, by simp [isLdAt, hi, hl], ?_⟩
          simp only [waitsOn, hoj, Bool.not_eq_true', Array.any_eq_false]
          intro k hk hb
          simp only [Bool.and_eq_true, beq_iff_eq] at hb
          exact hnot _ (Array.getElem_mem hk) hb.1 hb.2
        have hput := wpOp_putIf hoj (hfree j oj hoj hji hjun hnot) (fun cs b => hsel i oi cs b hi) (fun cs b => hsel j oj cs b hoj) hQ hy hahead
        refine wpOp_mono (fun a' w' k => ⟨k.2.1, ih (listed.setIfInBounds j true) a' w' (fun m om hm hmi hun hno => hfree m om hm hmi ?_ hno) (ready_mono hr (Ne.symm hji)) k.1
          (fun hl => k.2.1 (hnd hl) (hS hl)) ?_⟩) hput
        · by_cases hjm : j = m
          · subst hjm; exact hjun
          · rw [getD_set_ne true hjm] at hun; exact hun
        · rw [Array.setIfInBounds_comm _ _ hji]
          exact k.2.2
  exact fun fuel listed a w h1 h2 h3 h4 h5 => main fuel listed a w h1 h2 h3 (fun _ => h4) h5

theorem wpAnyG_take {i : Nat} {oi : Oper} {v : Value} {fuel : Nat} {listed : Array Bool} {a : Act} {w : World} (hi : ops[i]? = some oi)
    (hs : Region.noSelect ops = true) (hf : Region.free .any ops listed i = true) (hr : (Region.ready .any ops listed).contains i = true)
    (hQ : ∀ c a w, Q (.panic c) (a.put oi.dst v) w → Q (.panic c) a w) (hy : YieldsIf P ops (fun w' => isLd oi.op = true → S w') oi v a) (hS : S w)
    (h : wpAnyG P ops Q S fuel (listed.setIfInBounds i true) (a.put oi.dst v) w) : wpAnyG P ops Q S (fuel + 1) listed a w :=
  wpAnyG_first hi (Region.noSelect_spec hs) hQ fuel listed a w (Region.free_spec hi hf) (by simpa using hr) hy hS h

theorem wpAnyG_all {rs : List Nat} {fuel : Nat} {listed : Array Bool} {a : Act} {w : World} (hr : Region.ready .any ops listed = rs) (hne : rs ≠ [])
    (h : ∀ i ∈ rs, wpOp P ops Q i (fun a' w' => S w' ∧ wpAnyG P ops Q S fuel (listed.setIfInBounds i true) a' w') a w) : wpAnyG P ops Q S (fuel + 1) listed a w :=
  ⟨fun h0 => absurd (hr ▸ h0) hne, hr ▸ fun i hi => wpOp_mono (fun a' w' k => ⟨fun _ _ => k.1, k.2⟩) (h i hi)⟩

theorem wpAnyG_done {listed : Array Bool} {a : Act} {w : World} (hr : Region.ready .any ops listed = []) (h : Q .normal a w) :
    ∀ fuel, wpAnyG P ops Q S fuel listed a w
  | 0 => ⟨hr, h⟩
  | _ + 1 => ⟨fun _ => h, by rw [hr]; simp⟩

theorem wpAnyG_of_H : ∀ (fuel : Nat) (listed : Array Bool) (a : Act) (w : World), wpAnyH P .any ops Q S fuel listed a w → wpAnyG P ops Q S fuel listed a w
  | 0, _, _, _, h => h
  | fuel + 1, _, _, _, h => ⟨h.1, fun i hi => wpOp_mono (fun a' w' k => ⟨fun _ _ => k.1, wpAnyG_of_H fuel _ a' w' k.2⟩) (h.2 i hi)⟩
end

section
variable {n0 : Nat} {P : Program} {w0 w w' : World} {L0 L L' : Nat → Lc} {h : List Blk} {nt : Nat} {s s' : St} {a : Act}

/-- The blocks that are held are as they were. -/
structure HS (E1 : Env) (hd : List Nat) (w : World) (H : List Blk) (L : Nat → Lc) : Prop where
  sees : Sees E1 hd w
  ext : Ext E1 (envOf w H L)
  live : ∀ i, i ∈ hd → Live H i ∧ L i = E1.L i
  low : ∀ i b, i ∈ hd → (E1.L i).blk = some b → b < E1.w.heap.size

theorem HS.lt {E1 : Env} {hd : List Nat} {H : List Blk} (hh : HS E1 hd w H L) {i b : Nat} (hi : i ∈ hd) (hb : (E1.L i).blk = some b) : b < E1.w.heap.size := hh.low i b hi hb

theorem HS.step {E1 : Env} {hd ws : List Nat} {H H' : List Blk} (hh : HS E1 hd w H L) (hsame : Same w w' H L L' ws) (he : Ext (envOf w H L) (envOf w' H' L'))
    (hst : ∀ i, i ∉ ws → i < H.length → H'[i]? = H[i]?) (hws : (ws.all fun i => !hd.contains i) = true) : HS E1 hd w' H' L' := by
  have hn : ∀ i, i ∈ hd → i ∉ ws := fun i hi hm => by
    have := List.all_eq_true.1 hws i hm
    simp at this
    exact this hi
  refine ⟨fun b hb hor => ?_, hh.ext.trans he, fun i hi => ?_, ?_⟩
  · have h1 := hh.sees b hb hor
    rw [← h1]
    rcases hor with ho | ⟨id, hid, hL⟩
    · exact (he.keep b (Nat.lt_of_lt_of_le hb hh.ext.size) (hh.ext.keep b hb ho).2).1
    · obtain ⟨k1, k2⟩ := hh.live id hid
      have hlt : id < H.length := let ⟨x, hx, _⟩ := k1; (List.getElem?_eq_some_iff.1 hx).1
      exact (hsame id hlt (hn id hid)).2 k1 b (by rw [k2]; exact hL)
  · obtain ⟨⟨x, hx, lx⟩, k2⟩ := hh.live i hi
    have hlt : i < H.length := (List.getElem?_eq_some_iff.1 hx).1
    exact ⟨⟨x, by rw [hst i (hn i hi) hlt]; exact hx, lx⟩, (hsame i hlt (hn i hi)).1.trans k2⟩
  · exact hh.low

theorem isLd_load {P : Program} {drw : Option Nat} {o : Oper} {ao : AOp} (hc : cOp P drw o = some ao) (hl : isLd o.op = true) : (∃ g n p, ao = .load g n p) ∨ ∃ g, ao = .glob g := by
  cases ho : o.op with
  | load t p =>
    simp only [cOp, ho, bind, Option.bind_eq_some_iff] at hc
    obtain ⟨g, _, n, _, hc⟩ := hc
    split at hc
    · split at hc
      · cases hc; exact .inr ⟨_, rfl⟩
      · cases hc
    split at hc
    · simp only [Option.bind_eq_some_iff] at hc
      obtain ⟨p, _, hc⟩ := hc
      cases hc
      exact .inl ⟨_, _, _, rfl⟩
    · cases hc
  | _ => rw [ho] at hl; simp [isLd] at hl

theorem takeB_spec {ops : Array Oper} {ld : Bool} {listed : Array Bool} {i : Nat} {ao : AOper} (hc : cDrw P nt ops i = some ao) (hb : takeB P nt ops ld listed i = true) :
    takeable ld ao = true ∧ Region.free .any ops listed i = true := by
  simpa [takeB, hc] using hb

theorem cDrw_spec {ops : Array Oper} {i : Nat} {ao : AOper} (hc : cDrw P nt ops i = some ao) : ∃ o, ops[i]? = some o ∧ cOper P nt ops (some (allocNo ops i)) o = some ao := by
  unfold cDrw at hc
  split at hc
  · rename_i o ho; exact ⟨o, ho, hc⟩
  · cases hc

/-- What is taken first. -/
theorem evTake_ok {E1 : Env} {S : World → Prop} {rs : List Nat} (hs : SR n0 w0 L0 h nt s a w L) {ops : Array Oper} {o : Oper} {drw : Option Nat} {ao : AOper} (hc : cOper P nt ops drw o = some ao)
    (he : evTake h s ao = some (s', rs)) (hS : ∀ w', S w' → isLd o.op = true → Sees (envOf w (full h s) L) rs w') :
    ∃ cv, YieldsIf P ops S o cv a ∧ SR n0 w0 L0 h nt s' (a.put o.dst cv) w L ∧ full h s' = full h s := by
  unfold cOper at hc
  split at hc
  case h_2 => cases hc
  rename_i g hg
  split at hc
  case isFalse => cases hc
  rename_i hd'
  cases hc
  unfold evTake at he
  simp only at he
  obtain ⟨s1, c, hs1, hm1, ho1, hw, hcase⟩ := gdo_ok hs hg he
  have hf1 : full h s1 = full h s := by unfold full; rw [hm1, ho1]
  rcases hcase with ⟨rfl, he⟩ | ⟨rfl, he⟩
  · obtain ⟨⟨v, rs'⟩, hv, he⟩ := ob_some he
    cases he
    obtain ⟨op, hop, hgd'⟩ : ∃ op, cOp P drw o = some op ∧ (cOp P drw o).getD (.row 0 []) = op := by
      cases hq : cOp P drw o with
      | none => rw [hq] at hv; cases hv
      | some op => exact ⟨op, rfl, rfl⟩
    rw [hgd'] at hv
    rw [← hf1] at hS
    obtain ⟨cv, h1, h2⟩ := evP_ok hs1.hr hs1.tr hop hv
    refine ⟨cv, .inl ⟨hw, fun w' hw' => h2 w' (fun hl => hS w' hw' hl)⟩, ?_, ?_⟩
    · exact hs1.go hd' hs1.hr rfl h1 (.refl _) (ws := []) (fun _ _ _ => ⟨rfl, fun _ _ _ => rfl⟩) (.refl _ _) (hlive_all h s1)
    · rw [← hf1]; cases o.dst <;> rfl
  · cases he
    refine ⟨undef, .inr ⟨hw, rfl⟩, ?_, ?_⟩
    · exact hs1.go hd' hs1.hr rfl .undef (.refl _) (ws := []) (fun _ _ _ => ⟨rfl, fun _ _ _ => rfl⟩) (.refl _ _) (hlive_all h s1)
    · rw [← hf1]; cases o.dst <;> rfl

variable {E : FnS} {ops : Array Oper} {Q : Exit → Act → World → Prop}

theorem takeable_ld {ops : Array Oper} {o : Oper} {drw : Option Nat} {ao : AOper} (hc : cOper P nt ops drw o = some ao) (ht : takeable false ao = true) : isLd o.op = false := by
  cases hl : isLd o.op with
  | false => rfl
  | true =>
    exfalso
    unfold cOper at hc
    split at hc
    case h_2 => cases hc
    split at hc
    case isFalse => cases hc
    cases hc
    cases hq : cOp P drw o with
    | none => rw [hq] at ht; simp [takeable, AOp.acts] at ht
    | some op =>
      rcases isLd_load hq hl with ⟨g, n, p, e⟩ | ⟨g, e⟩
      all_goals
        subst e
        rw [hq] at ht
        simp [takeable, AOp.acts] at ht

theorem ite_some {α : Type} {c : Bool} {x : Option α} {r : α} (h : (if c = true then x else none) = some r) : c = true ∧ x = some r := by
  split at h
  · exact ⟨by assumption, h⟩
  · cases h

theorem evTakeM_ok {E1 : Env} {hd rs : List Nat} (hs : SR n0 w0 L0 h nt s a w L) (hh : HS E1 hd w (full h s) L) {ops : Array Oper} {o : Oper} {drw : Option Nat} {ao : AOper} (hc : cOper P nt ops drw o = some ao)
    (hok : ldOk s hd ao = true) (he : evTake h s ao = some (s', rs)) :
    ∃ cv, YieldsIf P ops (fun w' => isLd o.op = true → Sees E1 hd w') o cv a ∧ SR n0 w0 L0 h nt s' (a.put o.dst cv) w L ∧ full h s' = full h s := by
  cases hl : isLd o.op with
  | false =>
    obtain ⟨cv, h1, h2, h3⟩ := evTake_ok (E1 := E1) (S := fun _ => True) hs hc he (fun w' _ hl' => by rw [hl] at hl'; cases hl')
    refine ⟨cv, ?_, h2, h3⟩
    rcases h1 with ⟨y1, y2⟩ | y
    · exact .inl ⟨y1, fun w' _ => y2 w' trivial⟩
    · exact .inr y
  | true =>
    unfold cOper at hc
    split at hc
    case h_2 => cases hc
    rename_i g hg
    split at hc
    case isFalse => cases hc
    rename_i hd'
    cases hc
    unfold evTake at he
    simp only at he
    obtain ⟨s1, c, hs1, hm1, ho1, hw, hcase⟩ := gdo_ok2 hs hg he
    have hf1 : full h s1 = full h s := by unfold full; rw [hm1, ho1]
    rcases hcase with ⟨rfl, he, hoff, hlk⟩ | ⟨rfl, he⟩
    · obtain ⟨⟨v, rs'⟩, hv, he⟩ := ob_some he
      cases he
      obtain ⟨op, hop, hgd'⟩ : ∃ op, cOp P drw o = some op ∧ (cOp P drw o).getD (.row 0 []) = op := by
        cases hq : cOp P drw o with
        | none => rw [hq] at hv; cases hv
        | some op => exact ⟨op, rfl, rfl⟩
      rw [hgd'] at hv hok
      rcases isLd_load hop hl with ⟨ag, n, p, e⟩ | ⟨g, e⟩
      case inr => subst e; simp only [ldOk, hoff] at hok; cases hok
      subst e
      simp only [ldOk, hoff, Bool.false_or] at hok
      -- the variable that is loaded
      have hptr : ∃ id off, val s p = some (.ptr id off) ∧ id ∈ hd := by
        split at hok
        · rename_i id off hp; exact ⟨id, off, hp, by simpa using hok⟩
        · cases hok
      obtain ⟨id, off, hp, hmem⟩ := hptr
      have hp1 : val s1 p = some (.ptr id off) := by
        cases p with
        | t n => simp only [val] at hp ⊢; exact hlk n _ hp (fun b hb => by cases hb)
        | c v => simpa only [val] using hp
      cases hoo : o.op with
      | load t pp =>
        obtain ⟨dst, oop, ty, pos, after, gdd⟩ := o
        simp only at hoo
        subst hoo
        simp only [cOp] at hop
        obtain ⟨ag', ha, hop⟩ := bind_some_inv hop
        obtain ⟨n', hn, hop⟩ := bind_some_inv hop
        split at hop
        · split at hop <;> cases hop
        split at hop
        case isFalse => cases hop
        rename_i hcond
        obtain ⟨X, hx, hop⟩ := bind_some_inv hop
        cases hop
        obtain ⟨cv, h1, h2⟩ := y_loadP hs1.hr hs1.tr (dst := dst) (ty := ty) (pos := pos) (after := after) (gd := gdd) ha hn hcond hx hp1 hv
        refine ⟨cv, .inl ⟨hw, fun w' hw' => h2 w' (fun b hb => ?_)⟩, ?_, ?_⟩
        · obtain ⟨⟨x, hx1, hx2⟩, hLi⟩ := hh.live id hmem
          have e1 := hw' rfl b (by
            have hb1 : (E1.L id).blk = some b := by rw [← hLi]; exact hb
            exact hh.lt hmem hb1) (.inr ⟨id, hmem, by rw [← hLi]; exact hb⟩)
          have e2 := hh.sees b (by
            have hb1 : (E1.L id).blk = some b := by rw [← hLi]; exact hb
            exact hh.lt hmem hb1) (.inr ⟨id, hmem, by rw [← hLi]; exact hb⟩)
          rw [e1, e2]
        · exact hs1.go hd' hs1.hr rfl h1 (.refl _) (ws := []) (fun _ _ _ => ⟨rfl, fun _ _ _ => rfl⟩) (.refl _ _) (hlive_all h s1)
        · rw [← hf1]; cases dst <;> rfl
      | _ => rw [hoo] at hl; simp [isLd] at hl
    · cases he
      refine ⟨undef, .inr ⟨hw, rfl⟩, ?_, ?_⟩
      · exact hs1.go hd' hs1.hr rfl .undef (.refl _) (ws := []) (fun _ _ _ => ⟨rfl, fun _ _ _ => rfl⟩) (.refl _ _) (hlive_all h s1)
      · rw [← hf1]; cases o.dst <;> rfl

theorem evTreeB_ok (hE : FnOk P E) (hsel : Region.noSelect ops = true) (hP : ∀ c a w, ¬ Q (.panic c) a w) {E1 : Env} {nb : Nat} {hd lv : List Nat} :
    ∀ (n : Nat) (listed : Array Bool) (t : Tree) (s : St) (a : Act) (w : World) (L : Nat → Lc), cTreeB P nt ops n listed = some t → SR n0 w0 L0 h nt s a w L → HS E1 hd w (full h s) L →
      evTree E h nb lv hd t s = some s' → (∀ a' w' L', SR n0 w0 L0 h nt s' a' w' L' → Q .normal a' w') → wpAnyH P .any ops Q (Sees E1 hd) n listed a w := by
  intro n
  induction n with
  | zero =>
    intro listed t s a w L hc hs hh he hQ
    simp only [cTreeB] at hc
    split at hc
    case isFalse => cases hc
    rename_i hr
    cases hc
    simp only [evTree] at he
    cases he
    exact wpAnyH_done (by simpa using hr) (hQ a w L (hs.kp lv)) 0
  | succ n ih =>
    intro listed t s a w L hc hs hh he hQ
    simp only [cTreeB] at hc
    split at hc
    · rename_i hr
      cases hc
      simp only [evTree] at he
      cases he
      exact wpAnyH_done (by simpa using hr) (hQ a w L (hs.kp lv)) _
    rename_i hne
    split at hc
    · rename_i i hfi
      split at hc
      case h_2 => cases hc
      rename_i ao t' hco hct
      cases hc
      obtain ⟨o, ho, hcc⟩ := cDrw_spec hco
      obtain ⟨htk, hfree⟩ := takeB_spec hco (List.find?_some hfi)
      simp only [evTree] at he
      split at he
      case h_2 => cases he
      rename_i s1 rs h1
      obtain ⟨_, h1⟩ := ite_some h1
      obtain ⟨cv, hy, hs1, hf⟩ := evTake_ok (E1 := E1) (S := Sees E1 hd) hs hcc h1 (fun w' _ hl => by rw [takeable_ld hcc htk] at hl; cases hl)
      refine wpAnyH_take ho hsel hfree (by simpa using List.mem_of_find?_eq_some hfi) (fun c a w hq => absurd hq (hP _ _ _)) hy hh.sees ?_
      exact ih _ t' s1 _ w L hct hs1 (by rw [hf]; exact hh) he hQ
    · refine wpAnyH_all rfl (by simpa using hne) ?_
      generalize Region.ready .any ops listed = l at hc
      have key : ∀ (l : List Nat) (t : Tree), cAll (fun i => cTreeB P nt ops n (listed.setIfInBounds i true)) (cDrw P nt ops) l = some t → evTree E h nb lv hd t s = some s' →
          ∀ i ∈ l, wpOp P ops Q i (fun a' w' => Sees E1 hd w' ∧ wpAnyH P .any ops Q (Sees E1 hd) n (listed.setIfInBounds i true) a' w') a w := by
        intro l
        have one : ∀ (i : Nat) (ao : AOper) (t : Tree) (s1 : St) (ws : List Nat), cDrw P nt ops i = some ao → cTreeB P nt ops n (listed.setIfInBounds i true) = some t →
            evOne E h nb hd s ao = some (s1, ws) → (ws.all fun i => !hd.contains i) = true → evTree E h nb lv hd t s1 = some s' →
            wpOp P ops Q i (fun a' w' => Sees E1 hd w' ∧ wpAnyH P .any ops Q (Sees E1 hd) n (listed.setIfInBounds i true) a' w') a w := by
          intro i ao t s1 ws hco hct h1 hws h2
          obtain ⟨o, ho, hcc⟩ := cDrw_spec hco
          refine evOne_ok hE hs ho hcc h1 fun a' w' L' k1 k2 k3 k4 => ?_
          have hh' := hh.step k2 k3 k4 hws
          exact ⟨hh'.sees, ih _ t s1 a' w' L' hct k1 hh' h2 hQ⟩
        induction l with
        | nil => intro t hc; cases hc
        | cons i r ihl =>
          intro t hc he
          cases r with
          | nil =>
            simp only [cAll] at hc
            split at hc
            case h_2 => cases hc
            rename_i ao t' hco hct
            cases hc
            simp only [evTree] at he
            split at he
            case h_2 => cases he
            rename_i s1 ws h1
            split at he
            case isFalse => cases he
            rename_i hws
            intro j hj
            simp at hj
            subst hj
            exact one j ao t' s1 ws hco hct h1 hws he
          | cons i2 r2 =>
            simp only [cAll] at hc
            split at hc
            case h_2 => cases hc
            rename_i ao t' r' hco hct hcr
            cases hc
            simp only [evTree] at he
            split at he
            case h_2 => cases he
            rename_i s1 ws h1
            split at he
            case isFalse => cases he
            rename_i hws
            split at he
            case h_2 => cases he
            rename_i x y hx hy
            split at he
            case isFalse => cases he
            rename_i hxy
            subst hxy
            cases he
            intro j hj
            rcases List.mem_cons.1 hj with rfl | hj
            · exact one j ao t' s1 ws hco hct h1 hws hx
            · exact ihl r' (by simpa only [cAll] using hcr) hy j hj
      exact key l t hc he

theorem evTree_ok {hm : Bool} (hE : FnOk P E) (hsel : Region.noSelect ops = true) (hP : ∀ c a w, ¬ Q (.panic c) a w) {E1 : Env} {nb : Nat} {hd lv : List Nat} :
    ∀ (n : Nat) (listed : Array Bool) (t : Tree) (s : St) (a : Act) (w : World) (L : Nat → Lc), cTree P nt ops hm n hm listed = some t → SR n0 w0 L0 h nt s a w L → HS E1 hd w (full h s) L →
      evTree E h nb lv hd t s = some s' → (∀ a' w' L', SR n0 w0 L0 h nt s' a' w' L' → Q .normal a' w') → wpAnyG P ops Q (Sees E1 hd) n listed a w := by
  intro n
  induction n with
  | zero =>
    intro listed t s a w L hc hs hh he hQ
    simp only [cTree] at hc
    split at hc
    case isFalse => cases hc
    rename_i hr
    cases hc
    simp only [evTree] at he
    cases he
    exact wpAnyG_done (by simpa using hr) (hQ a w L (hs.kp lv)) 0
  | succ n ih =>
    intro listed t s a w L hc hs hh he hQ
    simp only [cTree] at hc
    split at hc
    · rename_i hr
      cases hc
      simp only [evTree] at he
      cases he
      exact wpAnyG_done (by simpa using hr) (hQ a w L (hs.kp lv)) _
    rename_i hne
    split at hc
    · rename_i hfr
      cases hq : cTreeB P nt ops (n + 1) listed with
      | none => rw [hq] at hc; cases hc
      | some t' =>
        rw [hq] at hc
        cases hc
        simp only [evTree] at he
        refine wpAnyG_of_any _ _ _ _ hfr (wpAny_of_held _ _ _ _ (evTreeB_ok hE hsel hP (E1 := envOf w (full h s) L) (hd := []) (n + 1) listed t' s a w L hq hs ?_ he hQ))
        exact ⟨.self _ _, .refl _, (fun i hi => by cases hi), fun i b hi => by cases hi⟩
    split at hc
    · rename_i i hfi
      split at hc
      case h_2 => cases hc
      rename_i ao t' hco hct
      cases hc
      obtain ⟨o, ho, hcc⟩ := cDrw_spec hco
      obtain ⟨htk, hfree⟩ := takeB_spec hco (List.find?_some hfi)
      simp only [evTree] at he
      split at he
      case h_2 => cases he
      rename_i s1 rs h1
      obtain ⟨hok, h1⟩ := ite_some h1
      obtain ⟨cv, hy, hs1, hf⟩ := evTakeM_ok (E1 := E1) hs hh hcc hok h1
      refine wpAnyG_take ho hsel hfree (by simpa using List.mem_of_find?_eq_some hfi) (fun c a w hq => absurd hq (hP _ _ _)) hy hh.sees ?_
      exact ih _ t' s1 _ w L hct hs1 (by rw [hf]; exact hh) he hQ
    · refine wpAnyG_all rfl (by simpa using hne) ?_
      generalize Region.ready .any ops listed = l at hc
      have key : ∀ (l : List Nat) (t : Tree), cAll (fun i => cTree P nt ops hm n hm (listed.setIfInBounds i true)) (cDrw P nt ops) l = some t → evTree E h nb lv hd t s = some s' →
          ∀ i ∈ l, wpOp P ops Q i (fun a' w' => Sees E1 hd w' ∧ wpAnyG P ops Q (Sees E1 hd) n (listed.setIfInBounds i true) a' w') a w := by
        intro l
        have one : ∀ (i : Nat) (ao : AOper) (t : Tree) (s1 : St) (ws : List Nat), cDrw P nt ops i = some ao → cTree P nt ops hm n hm (listed.setIfInBounds i true) = some t →
            evOne E h nb hd s ao = some (s1, ws) → (ws.all fun i => !hd.contains i) = true → evTree E h nb lv hd t s1 = some s' →
            wpOp P ops Q i (fun a' w' => Sees E1 hd w' ∧ wpAnyG P ops Q (Sees E1 hd) n (listed.setIfInBounds i true) a' w') a w := by
          intro i ao t s1 ws hco hct h1 hws h2
          obtain ⟨o, ho, hcc⟩ := cDrw_spec hco
          refine evOne_ok hE hs ho hcc h1 fun a' w' L' k1 k2 k3 k4 => ?_
          have hh' := hh.step k2 k3 k4 hws
          exact ⟨hh'.sees, ih _ t s1 a' w' L' hct k1 hh' h2 hQ⟩
        induction l with
        | nil => intro t hc; cases hc
        | cons i r ihl =>
          intro t hc he
          cases r with
          | nil =>
            simp only [cAll] at hc
            split at hc
            case h_2 => cases hc
            rename_i ao t' hco hct
            cases hc
            simp only [evTree] at he
            split at he
            case h_2 => cases he
            rename_i s1 ws h1
            split at he
            case isFalse => cases he
            rename_i hws
            intro j hj
            simp at hj
            subst hj
            exact one j ao t' s1 ws hco hct h1 hws he
          | cons i2 r2 =>
            simp only [cAll] at hc
            split at hc
            case h_2 => cases hc
            rename_i ao t' r' hco hct hcr
            cases hc
            simp only [evTree] at he
            split at he
            case h_2 => cases he
            rename_i s1 ws h1
            split at he
            case isFalse => cases he
            rename_i hws
            split at he
            case h_2 => cases he
            rename_i x y hx hy
            split at he
            case isFalse => cases he
            rename_i hxy
            subst hxy
            cases he
            intro j hj
            rcases List.mem_cons.1 hj with rfl | hj
            · exact one j ao t' s1 ws hco hct h1 hws hx
            · exact ihl r' (by simpa only [cAll] using hcr) hy j hj
      exact key l t hc he

theorem sees_mono {E1 : Env} {hd hd' : List Nat} (hsub : ∀ i, i ∈ hd → i ∈ hd') {w : World} (hw : Sees E1 hd' w) : Sees E1 hd w :=
  fun b hb ho => hw b hb (ho.imp id fun ⟨i, hi, hL⟩ => ⟨i, hsub i hi, hL⟩)

theorem evLead_ok {hm : Bool} (hE : FnOk P E) (hsel : Region.noSelect ops = true) (hP : ∀ c a w, ¬ Q (.panic c) a w) {nb : Nat} {lv : List Nat} (hQ : ∀ a' w' L', SR n0 w0 L0 h nt s' a' w' L' → Q .normal a' w') :
    ∀ (n : Nat) (listed : Array Bool) (t : Tree) (s : St) (hd : List Nat) (a : Act) (w : World) (L : Nat → Lc), cTree P nt ops hm n true listed = some t → SR n0 w0 L0 h nt s a w L →
      evLead E h nb lv hd t s = some s' → ∃ hdF, (∀ i, i ∈ hd → i ∈ hdF) ∧ wpAnyG P ops Q (Sees (envOf w (full h s) L) hdF) n listed a w := by
  intro n
  have stop : ∀ (n : Nat) (listed : Array Bool) (t : Tree) (s : St) (hd : List Nat) (a : Act) (w : World) (L : Nat → Lc), cTree P nt ops hm n hm listed = some t → SR n0 w0 L0 h nt s a w L →
      (if (hd.all (isLiveB (full h s))) = true then evTree E h nb lv hd t s else none) = some s' → ∃ hdF, (∀ i, i ∈ hd → i ∈ hdF) ∧ wpAnyG P ops Q (Sees (envOf w (full h s) L) hdF) n listed a w := by
    intro n listed t s hd a w L hc hs he
    split at he
    case isFalse => cases he
    rename_i hl
    exact ⟨hd, fun _ h => h, evTree_ok hE hsel hP n listed t s a w L hc hs ⟨.self _ _, .refl _, fun i hi => ⟨isLiveB_iff.1 (List.all_eq_true.1 hl i hi), rfl⟩, fun i b hi hb => by
      obtain ⟨x, hx, lx⟩ := isLiveB_iff.1 (List.all_eq_true.1 hl i hi)
      exact (hs.hr.blk i x hx).lt lx hb⟩ he hQ⟩
  induction n with
  | zero =>
    intro listed t s hd a w L hc hs he
    simp only [cTree] at hc
    split at hc
    case isFalse => cases hc
    rename_i hr
    cases hc
    exact stop 0 listed .leaf s hd a w L (by simp only [cTree]; rw [if_pos hr]) hs (by simpa only [evLead] using he)
  | succ n ih =>
    intro listed t s hd a w L hc hs he
    simp only [cTree] at hc
    split at hc
    · rename_i hr
      cases hc
      exact stop (n + 1) listed .leaf s hd a w L (by simp only [cTree]; rw [if_pos hr]) hs (by simpa only [evLead] using he)
    rename_i hne
    split at hc
    · rename_i hfr
      cases hq : cTreeB P nt ops (n + 1) listed with
      | none => rw [hq] at hc; cases hc
      | some t' =>
        rw [hq] at hc
        cases hc
        refine stop (n + 1) listed (.free t') s hd a w L (by simp only [cTree]; rw [if_neg hne, if_pos hfr, hq]; rfl) hs (by simpa only [evLead] using he)
    rename_i hnfr
    split at hc
    · rename_i i hfi
      split at hc
      case h_2 => cases hc
      rename_i ao t' hco hct
      cases hc
      obtain ⟨o, ho, hcc⟩ := cDrw_spec hco
      obtain ⟨htk, hfree⟩ := takeB_spec hco (List.find?_some hfi)
      simp only [evLead] at he
      split at he
      case h_2 => cases he
      rename_i s1 rs h1
      have hf0 : full h s1 = full h s ∧ True := ⟨by
        obtain ⟨cv, hy, hs1, hf⟩ := evTake_ok (E1 := envOf w (full h s) L) (S := fun _ => False) hs hcc h1 (fun w' hw' _ => hw'.elim)
        exact hf, trivial⟩
      obtain ⟨cv0, _, hs0, hf⟩ := evTake_ok (E1 := envOf w (full h s) L) (S := fun _ => False) hs hcc h1 (fun w' hw' _ => hw'.elim)
      have h2 := ih (listed.setIfInBounds i true) t' s1 (rs ++ hd)
      have : ∃ hdF, (∀ i, i ∈ rs ++ hd → i ∈ hdF) ∧ ∃ cv, YieldsIf P ops (fun w' => isLd o.op = true → Sees (envOf w (full h s) L) hdF w') o cv a ∧ wpAnyG P ops Q (Sees (envOf w (full h s) L) hdF) n (listed.setIfInBounds i true) (a.put o.dst cv) w := by
        obtain ⟨cv, hy, hs1, _⟩ := evTake_ok (E1 := envOf w (full h s) L) (S := fun w' => isLd o.op = true → Sees (envOf w (full h s) L) rs w') hs hcc h1 (fun w' hw' hl => hw' hl)
        obtain ⟨hdF, k1, k2⟩ := h2 (a.put o.dst cv) w L hct hs1 he
        rw [hf] at k2
        refine ⟨hdF, k1, cv, ?_, k2⟩
        rcases hy with ⟨y1, y2⟩ | y
        · exact .inl ⟨y1, fun w' hw' => y2 w' (fun hl => sees_mono (fun i hi => k1 i (List.mem_append.2 (.inl hi))) (hw' hl))⟩
        · exact .inr y
      obtain ⟨hdF, k1, cv, hy, k2⟩ := this
      refine ⟨hdF, fun i hi => k1 i (List.mem_append.2 (.inr hi)), ?_⟩
      exact wpAnyG_take ho hsel hfree (by simpa using List.mem_of_find?_eq_some hfi) (fun c a w hq => absurd hq (hP _ _ _)) hy (.self _ _) k2
    · rename_i hno
      have hno' : (Region.ready .any ops listed).find? (takeB P nt ops hm listed) = none := by
        cases hm with
        | true => exact hno
        | false =>
        rw [List.find?_eq_none] at hno ⊢
        intro i hi hb
        refine hno i hi ?_
        unfold takeB at hb ⊢
        split at hb
        · simp only [Bool.and_eq_true] at hb ⊢
          refine ⟨?_, hb.2⟩
          have := hb.1
          unfold takeable at this ⊢
          simp only [Bool.and_eq_true] at this ⊢
          refine ⟨this.1, ?_⟩
          have h2 := this.2
          split at h2 <;> first | (cases h2; done) | rfl | (split <;> simp_all)
        · cases hb
      refine stop (n + 1) listed t s hd a w L (by simp only [cTree]; rw [if_neg hne, if_neg hnfr, hno']; exact hc) hs ?_
      generalize Region.ready .any ops listed = l at hc
      cases t with
      | take o t =>
        exfalso
        cases l with
        | nil => cases hc
        | cons i r => cases r <;> (simp only [cAll] at hc; split at hc <;> cases hc)
      | hold ts t =>
        exfalso
        cases l with
        | nil => cases hc
        | cons i r => cases r <;> (simp only [cAll] at hc; split at hc <;> cases hc)
      | _ => simpa only [evLead] using he

/-- A region that draws. -/
theorem evDrw_ok {hh : Bool} (hE : FnOk P E) (hm : P.follows .mixedOrders = true) (hsel : Region.noSelect ops = true) (hP : ∀ c a w, ¬ Q (.panic c) a w) {id nb : Nat} {lv : List Nat} {t : Tree}
    (hc : cTree P nt ops hh ops.size true (Array.replicate ops.size false) = some t) (hs : SR n0 w0 L0 h nt s a w L) {hd0 : List Nat}
    (he : evLead E h (h.length + s.o.length) lv hd0 t (pends s nb) = some s') (hQ : ∀ a' w' L', SR n0 w0 L0 h nt s' a' w' L' → Q .normal a' w') {ro : Option Nat} {fn : Nat} (hnd : noDefer ops = true) (hG : ∀ a w, ¬ Q .outgrown a w) : (Code.region id ops true).wpIn (wideR ro) fn P Q a w := by
  have hs1 : SR n0 w0 L0 h nt s a { w with drawn := w.drawn + 1 } L := by
    obtain ⟨h1, h2⟩ := hs.hr.grow (Grows.drew w (w.drawn + 1))
    exact ⟨h1, hs.tr.mono h2, hs.df.mono h2, hs.nle, hs.sz, hs.ext.trans h2, fun id hid hn => hs.same id hid hn⟩
  have hs2 : ∀ (nb : Nat) , ∃ L', SR n0 w0 L0 h nt (pends s nb) a { w with drawn := w.drawn + 1 } L' := by
    intro nb
    induction nb with
    | zero => exact ⟨L, by simpa [pends] using hs1⟩
    | succ nb ih =>
      obtain ⟨L', hs'⟩ := ih
      have hf : full h (pends s (nb + 1)) = full h (pends s nb) ++ [.pend] := by
        simp [full, pends, List.replicate_succ']
      obtain ⟨k1, k2, k3⟩ := hs'.hr.add_same (Grows.refl _) .pend ⟨none, 0, 0, false⟩ (by simp) (fun _ => by
        refine ⟨?_, ?_, ?_⟩
        · show ((updL L' _ _) _).st = false; rw [updL_self]
        · show ((updL L' _ _) _).gen = 0; rw [updL_self]
        · show ((updL L' _ _) _).blk = none; rw [updL_self]) []
      rw [← hf] at k1 k2
      refine ⟨_, k1, hs'.tr.mono k2, hs'.df.mono k2, hs'.nle, hs'.sz, hs'.ext.trans k2, fun i hi hn => ?_⟩
      obtain ⟨j1, j2⟩ := hs'.same i hi hn
      have hi' : i < (full h (pends s nb)).length := by rw [full_length]; show i < h.length + (pends s nb).o.length; omega
      exact ⟨by rw [updL_ne _ _ _ (by omega)]; exact j1, j2⟩
  obtain ⟨L1, hs3⟩ := hs2 nb
  obtain ⟨hdF, _, k⟩ := evLead_ok hE hsel hP hQ ops.size _ t _ hd0 a _ L1 hc hs3 he
  exact wpIn_region_any hm (wpAnyIn_R hnd hG _ _ _ _ (wpAny_of_G _ _ _ _ k))

end
end Go.AM
end
section
set_option linter.unusedSimpArgs false
set_option linter.unusedVariables false
namespace Go.AM
open Go

def isYc : AOp → Bool
  | .ycall .. => true
  | _ => false
def cOperN (P : Program) (nt : Nat) (ops : Array Oper) (o : Oper) : Option AOper :=
  match cOper P nt ops none o with
  | some x => if isYc x.op = true then none else some x
  | none => none
theorem cOperN_ok {P : Program} {nt : Nat} {ops : Array Oper} {o : Oper} {x : AOper} (h : cOperN P nt ops o = some x) : cOper P nt ops none o = some x ∧ ∀ f xs, x.op ≠ .ycall f xs := by
  unfold cOperN at h
  split at h
  · rename_i y hy
    split at h
    · cases h
    · rename_i hn
      cases h
      exact ⟨hy, fun f xs e => hn (by rw [e]; rfl)⟩
  · cases h

def cOperY (P : Program) (nt : Nat) (ops : Array Oper) (o : Oper) : Option AOper :=
  match o.op, o.guard with
  | .call c, none => match c.callee with
    | .value (.tmp t) => if (o.dst.all fun d => decide (d < nt)) = true then match cOpds c.args.toList with
        | some xs => some ⟨o.dst, none, .ycall (.t t) xs⟩
        | none => none
      else none
    | _ => cOperN P nt ops o
  | _, _ => cOperN P nt ops o
def cOpsY (P : Program) (nt : Nat) (ops : Array Oper) : List Oper → Option (List AOper)
  | [] => some []
  | o :: r => match cOperY P nt ops o, cOpsY P nt ops r with
    | some x, some y => some (x :: y)
    | _, _ => none

section
variable {n0 : Nat} {P : Program} {w0 w w' : World} {L0 L L' : Nat → Lc} {h : List Blk} {nt : Nat} {s s' : St} {a : Act}

theorem roundIn_R {ro : Option Nat} {n m : Nat} {l : Nat} {f : FuncId} {tmps : Array Value} {assign body : Code} {R : Ending → World → Prop} (hR : RoundIn Fence.wide m P l f tmps assign body w R) :
    RoundIn (wideR ro) n P l f tmps assign body w R := by
  have h0 : RoundIn Fence.wide n P l f tmps assign body w R := ⟨trivial, fun c cs _ => hR.2 c cs (room_wide _)⟩
  cases ro with
  | none => exact h0
  | some l => exact h0

theorem run_call_yield {c : Call} {o : Oper} {x : Operand} (ho : o.op = .call c) (hx : c.callee = .value x) {b : Nat} (hf : a.eval x = .func (.yield b) #[] #[]) (w : World) :
    (execOp a.eval o).run P w = (Instr.yield b (c.args.map a.eval)).run P w := by
  simp [execOp, ho, resolve, hx, hf, Deferred.ofValue, invoke]

theorem setAll_t (h : List Blk) (s : St) : ∀ m, (setAll h s m).t = s.t := fun m => by
  induction m with
  | nil => rfl
  | cons p r ih => obtain ⟨i, b⟩ := p; simp only [setAll, setB_t, ih]

/-- What a call's answer makes of the state. -/
theorem fin_inv {h : List Blk} {s : St} {r : Res} {v : AV} {ws : List Nat} (hf : fin h [] s (some r) = some (v, s', ws)) :
    v = r.r ∧ ws = keysM r.m ∧ full h s' = applyM (full h s) r.m ++ r.o ∧ s'.t = s.t ∧ Kp h s s' ws := by
  obtain ⟨r, m, oo⟩ := r
  simp only [fin] at hf
  split at hf
  case isFalse => cases hf
  cases hf
  have hfull : applyM (full h s) m ++ oo = full h ((setAll h s m).app oo) := by rw [full_app, full_setAll]
  exact ⟨rfl, rfl, hfull.symm, setAll_t h s m, ⟨(setAll_keys h s m).1, (setAll_keys h s m).2, fun i hi hl => by
      rw [← hfull, List.getElem?_append_left (by rw [applyM_length]; exact hl), applyM_get_ne _ _ _ hi]⟩⟩

theorem AR.inv_yv {E : Env} {id : Nat} {c : Value} (h : AR E (.yv id) c) : ∃ b, c = .func (.yield b) #[] #[] ∧ id < E.n ∧ (E.L id).st = true ∧ (E.L id).blk = some b := by
  cases h with
  | yv h1 h2 h3 => exact ⟨_, rfl, h1, h2, h3⟩

theorem evOpsY_ok {E : FnS} (hE : FnOk P E) {ops : Array Oper} {Q : Exit → Act → World → Prop} {ro : Option Nat} {fn : Nat} (hnd : noDefer ops = true) (hG : ∀ a w, ¬ Q .outgrown a w) : ∀ (l : List Oper) (k : Nat) (al : List AOper) (s : St) (a : Act) (w : World) (L : Nat → Lc), (∀ (j : Nat), l[j]? = ops[k + j]?) →
    cOpsY P nt ops l = some al → SR n0 w0 L0 h nt s a w L → evOpsY E h al s = some s' → (∀ a' w' L', SR n0 w0 L0 h nt s' a' w' L' → Q .normal a' w') → wpOpsIn (wideR ro) fn P ops Q (List.range' k l.length) a w
  | [], k, al, s, a, w, L, hl, hc, hs, he, hQ => by
    cases hc
    simp only [evOpsY] at he
    cases he
    exact hQ a w L hs
  | o :: r, k, al, s, a, w, L, hl, hc, hs, he, hQ => by
    simp only [cOpsY] at hc
    split at hc
    case h_2 => cases hc
    rename_i x y hx hy
    cases hc
    simp only [evOpsY] at he
    obtain ⟨s1, h1, he⟩ := ob_some he
    simp only [List.length_cons, List.range'_succ]
    rw [wpOpsIn_cons]
    have hi : ops[k]? = some o := by have := hl 0; simpa using this.symm
    have rest : ∀ a' w' L', SR n0 w0 L0 h nt s1 a' w' L' → wpOpsIn (wideR ro) fn P ops Q (List.range' (k + 1) r.length) a' w' := fun a' w' L' k1 =>
      evOpsY_ok hE hnd hG r (k + 1) y s1 a' w' L' (fun j => by have := hl (j + 1); simp at this; rw [this]; congr 1; omega) hy k1 he hQ
    have plain : cOper P nt ops none o = some x → (∀ f xs, x.op ≠ .ycall f xs) → wpOpIn (wideR ro) fn P ops Q k (wpOpsIn (wideR ro) fn P ops Q (List.range' (k + 1) r.length)) a w := by
      intro hx hny
      have h1' : ob (evOne E h 0 [] s x) (fun p => some p.1) = some s1 := by
        unfold evOneY at h1
        split at h1
        · rename_i f xs hop; exact absurd hop (hny f xs)
        · exact h1
      obtain ⟨⟨s2, ws⟩, h2, h3⟩ := ob_some h1'
      cases h3
      refine wpInOp_R hnd hG (K := fun a' w' => ∃ L', SR n0 w0 L0 h nt s2 a' w' L') (fun a' w' ⟨L', k⟩ => rest a' w' L' k) (evOne_ok hE hs hi hx h2 fun a' w' L' k1 _ _ _ => ⟨L', k1⟩)
    unfold cOperY at hx
    split at hx
    · rename_i c hop hgd
      split at hx
      · rename_i t hcal
        split at hx
        case isFalse => cases hx
        rename_i hd
        split at hx
        case h_2 => cases hx
        rename_i xs hxs
        cases hx
        simp only [evOneY] at h1
        obtain ⟨⟨v, s2⟩, hy1, hy2⟩ := ob_some h1
        cases hy2
        unfold evYield at hy1
        split at hy1
        case h_2 => cases hy1
        rename_i id vs hfv hvs
        split at hy1
        case h_2 => cases hy1
        rename_i rd tt hB
        split at hy1
        case h_2 => cases hy1
        rename_i v' s'' ws hfin
        cases hy1
        cases hq : E 0 (.yk rd.key :: (vs ++ [.yv id])) (full h s) with
        | none => rw [hq] at hfin; cases hfin
        | some res =>
          rw [hq] at hfin
          obtain ⟨rfl, rfl, e3, e4, e5⟩ := fin_inv hfin
          have hcf := cOpd_ok hs.tr (x := .tmp t) (X := .t t) rfl hfv
          obtain ⟨b, hfb, hid, hst, hb⟩ := hcf.inv_yv
          have hargs := args_ok hs.tr hxs hvs
          rw [Array.toArray_toList] at hargs
          obtain ⟨fn', tmps, assign, body, hrun, hR⟩ := (hE _ _ _ _ hq).2 rd.key _ rfl rfl vs id rfl w L _ b hs.hr hargs hb
          unfold wpOpIn
          simp only [hi]
          have hw : Region.wanted o (yielded ops a.tmps) = true := by simp [Region.wanted, hgd]
          rw [if_pos hw]
          refine ⟨fun f _ => wideR_fn ro f, ?_⟩
          rw [Oper.semAt_eq _ _ _ (noDefer_at hnd hi), run_call_yield hop hcal hfb w, hrun, Oper.uponIn_round]
          refine ⟨(fun hm => by rw [wideR_depth] at hm; cases hm), roundIn_R (hR.mono fun e w' ⟨cv, hev, L', k1, k2, k3, k4⟩ => ?_)⟩
          subst hev
          rw [← e3] at k1 k2 k3
          exact rest _ w' L' (hs.go hd k2 e4 k1 k3 k4 e5 (hlive_all h s))
      · obtain ⟨q1, q2⟩ := cOperN_ok hx; exact plain q1 q2
    · obtain ⟨q1, q2⟩ := cOperN_ok hx; exact plain q1 q2
end
end Go.AM
end
section
set_option linter.unusedSimpArgs false
set_option linter.unusedVariables false
namespace Go.AM
open Go

def allocs (ops : Array Oper) : Nat := allocNo ops ops.size

/-- Code that nobody comes to. -/
def dead : IC := .reg [] [⟨none, none, .row 0 []⟩]

/-- The mark of a region in which a function's argument is called that may be a range's round. -/
def yMark : Nat := 999999

/-- The abstract machine's code of a code: behind each part the temporaries that are told of further on are kept (as handed). -/
def cCode (P : Program) (nt : Nat) (top : Bool) : Code → List (List Nat) → Option (IC × List (List Nat))
  | .skip, hs => some (.skip, hs)
  | .region _ ops draw, hs => match hs with
    | lv :: hs => if noDefer ops = true then (if draw = true then match hs with
        | ts :: hs => (if Region.noSelect ops = true then match cTree P nt ops (!ts.isEmpty) ops.size true (Array.replicate ops.size false) with
          | some t => some (.drw lv (allocs ops) (if ts.isEmpty = true then t else .hold ts t), hs)
          | none => none else none)
        | [] => none
        else if lv.head? = some yMark then match cOpsY P nt ops ops.toList with
          | some al => some (.regy lv.tail al, hs)
          | none => none
        else match cOps P nt ops ops.toList with
          | some al => some (.reg lv al, hs)
          | none => none) else none
    | [] => none
  | .seq a b, hs => match cCode P nt top a hs with
    | some (x, hs) => match cCode P nt top b hs with
      | some (y, hs) => some (.seq x y, hs)
      | none => none
    | none => none
  | .cond c a b, hs => match hs with
    | lv :: hs => match cOpd c with
      | some c => match cCode P nt top a hs with
        | some (x, hs) => match cCode P nt top b hs with
          | some (y, hs) => some (.cond lv c x y, hs)
          | none => none
        | none => none
      | none => none
    | [] => none
  | .block id a, hs => match hs with
    | lv :: hs => match cCode P nt top a hs with
      | some (x, hs) => some (.block lv id x, hs)
      | none => none
    | [] => none
  | .loop a, hs => match hs with
    | lv :: hs => match cCode P nt top a hs with
      | some (x, hs) => some (.loop lv [] x, hs)
      | none => none
    | [] => none
  | .rangeFunc g ps a b, hs => match hs with
    | [key] :: lv :: lt :: hs => if top = true then match cOpd g with
        | some f => some (.rfun lv ⟨key, nt, ps, a, b⟩ lt f, hs)
        | none => none
      else some (dead, lv :: lt :: hs)
    | hs => some (dead, hs)
  | .exit id, hs => some (.exit id, hs)
  | .label _, hs => some (.skip, hs)
  | .scope a, hs => cCode P nt top a hs
  | .ret, hs => some (.ret, hs)
  | _, hs => some (dead, hs)

theorem dead_none {E : FnS} {h : List Blk} {s : St} : evCode E h dead s = none := by
  simp only [dead, evCode, evOps, evOne, gdo, exOp, AOp.acts, evP]
  rfl

def exOf : Ex → Exit
  | .normal => .normal
  | .exit id => .exit id
  | .ret => .ret

theorem lim_some {α : Type} {f : Nat → Option α} {r : α} (h : lim f = some r) : ∃ n, f n = some r := by
  unfold lim at h
  split at h
  · rename_i hx; exact ⟨_, h⟩
  · cases h

section
variable {n0 : Nat} {P : Program} {w0 : World} {L0 : Nat → Lc} {h : List Blk} {nt : Nat} {E : FnS}

/-- What a code ends in. -/
def Ends (n0 : Nat) (w0 : World) (L0 : Nat → Lc) (h : List Blk) (nt : Nat) (e : Ex) (s : St) : Exit → Act → World → Prop :=
  fun e' a' w' => e' = exOf e ∧ ∃ L', SR n0 w0 L0 h nt s a' w' L'

theorem kpN_inv {lv : List Nat} {r : Out} {e : Ex} {s' : St} (he : kpN lv r = some (e, s')) : ∃ s1, r = some (e, s1) ∧ ((e = .normal ∧ s' = s1.kp lv) ∨ (e ≠ .normal ∧ s' = s1)) := by
  unfold kpN at he
  split at he
  · cases he; exact ⟨_, rfl, .inl ⟨rfl, rfl⟩⟩
  · rename_i hn
    subst he
    exact ⟨s', rfl, .inr ⟨fun e' => hn s' (by rw [e']), rfl⟩⟩

theorem ends_kp {lv : List Nat} {r : Out} {e : Ex} {s' : St} {e' : Exit} {a' : Act} {w' : World} (he : kpN lv r = some (e, s')) (hr : ∀ s1, r = some (e, s1) → Ends n0 w0 L0 h nt e s1 e' a' w') :
    Ends n0 w0 L0 h nt e s' e' a' w' := by
  obtain ⟨s1, h1, h2⟩ := kpN_inv he
  obtain ⟨k1, L', k2⟩ := hr s1 h1
  rcases h2 with ⟨rfl, rfl⟩ | ⟨_, rfl⟩
  · exact ⟨k1, L', k2.kp lv⟩
  · exact ⟨k1, L', k2⟩

/-- A range over a function. -/
theorem evRf_ok (hE : FnOk P E) {s s' : St} {a : Act} {w : World} {L : Nat → Lc} {e : Ex} (hs : SR n0 w0 L0 h nt s a w L) {g : Operand} {rd : RD} {fo : Opd} {lv lt : List Nat} {fn : Nat} (hg : cOpd g = some fo) (hnt : rd.nt = nt)
    (he : evRf E h lv rd lt fo s = some (e, s')) : (Code.rangeFunc g rd.ps rd.assign rd.body).wpIn (wideR none) fn P (Ends n0 w0 L0 h nt e s') a w := by
  unfold evRf at he
  split at he
  case h_2 => cases he
  rename_i f c caps hfv
  split at he
  case h_2 => cases he
  rename_i v s2 ws hfin
  obtain ⟨s1, hs1⟩ : ∃ s1, s.push (.lp rd (keep s.t lt) none) = s1 := ⟨_, rfl⟩
  rw [hs1] at hfin
  have hf1 : full h s1 = full h s ++ [.lp rd (keep s.t lt) none] := by rw [← hs1, full_push]
  refine wpIn_rangeFunc ?_
  intro fn' _
  obtain ⟨rec, hrec⟩ : ∃ rec : Loop, rec = { state := .ready, pending := none, fn := fn', tmps := a.tmps, params := rd.ps, assign := rd.assign, body := rd.body, defers := w.heap.size } := ⟨_, rfl⟩
  obtain ⟨W1, hW1⟩ : ∃ W1, (w.alloc (.deferred (some []))).alloc (.loop rec) = W1 := ⟨_, rfl⟩
  have hL1 : W1.heap[w.heap.size + 1]? = some (.loop rec) := by
    rw [← hW1]; have := World.alloc_heap_new (w.alloc (.deferred (some []))) (.loop rec); rwa [World.size_alloc] at this
  have hK1 : W1.heap[w.heap.size]? = some (.deferred (some [])) := by
    rw [← hW1]; exact (RowKit.Below.heap_alloc _ _ _ (by simp)).trans (World.alloc_heap_new w _)
  have hgr : Grows w W1 := by
    rw [← hW1]; exact (Grows.push w (.deferred (some []))).trans (Grows.push _ (.loop rec))
  have hT : TR (envOf w (full h s) L) a (keep s.t lt) := hs.tr.keep lt
  obtain ⟨k1, k2, k3⟩ := hs.hr.add_same hgr (.lp rd (keep s.t lt) none) ⟨some (w.heap.size + 1), 0, 0, true⟩ (by simp) (fun he => by
    refine ⟨?_, w.heap.size + 1, rec, ?_, hL1, ?_⟩
    · show ((updL L (full h s).length _) (full h s).length).st = true; rw [updL_self]
    · show ((updL L (full h s).length _) (full h s).length).blk = _; rw [updL_self]
    · rw [hrec]
      exact ⟨rfl, rfl, rfl, by rw [hnt]; exact hs.sz, ⟨rfl, rfl⟩, fun i v hi => (hT i v hi).mono he⟩) []
  rw [← hf1] at k1 k2
  obtain ⟨L1, hLe⟩ : ∃ L1, updL L (full h s).length ⟨some (w.heap.size + 1), 0, 0, true⟩ = L1 := ⟨_, rfl⟩
  have hid1 : L1 (full h s).length = ⟨some (w.heap.size + 1), 0, 0, true⟩ := by rw [← hLe, updL_self]
  rw [hLe] at k1 k2 k3
  have hid : s.next h = (full h s).length := by rw [full_length]
  rw [hid] at hfin he
  have hidlt : (full h s).length < (full h s1).length := by rw [hf1]; simp
  have SR1 : SR n0 w0 L0 h nt s1 a W1 L1 := by
    have := hs.go (d := none) rfl k1 (v := .undef) (cv := Go.undef) (by rw [← hs1]; simp [St.push]) .undef k2 k3 (by rw [← hs1]; exact Kp.o rfl _ rfl) (hlive_all h s)
    exact this
  have hcf := cOpd_ok hs.tr hg hfv
  obtain ⟨C, hC, hCn, hCa⟩ : ∃ C, a.eval g = .func (.func f) #[] C ∧ (c :: caps).length = C.size ∧ ∀ (j : Nat) (x : AV) (u : Value), (c :: caps)[j]? = some x → C[j]? = some u → AR (envOf w (full h s) L) x u := by
    generalize a.eval g = q at hcf
    cases hcf with
    | fv hn hc => exact ⟨_, rfl, hn, hc⟩
  cases hq : E f (.yv (full h s).length :: c :: caps) (full h s1) with
  | none => rw [hq] at hfin; cases hfin
  | some res =>
    rw [hq] at hfin
    obtain ⟨rfl, rfl, e3, e4, e5⟩ := fin_inv hfin
    have hargs : ArgsOk (envOf W1 (full h s1) L1) (.yv (full h s).length :: c :: caps) (#[.func (.yield (w.heap.size + 1)) #[] #[]] ++ C) := by
      refine ⟨by simp at hCn ⊢; omega, fun j x u hx hu => ?_⟩
      cases j with
      | zero =>
        rw [Array.getElem?_append_left (by simp)] at hu
        simp at hx hu
        subst hx hu
        exact .yv hidlt (by show (L1 _).st = true; rw [hid1]) (by show (L1 _).blk = _; rw [hid1])
      | succ j =>
        refine (hCa j x u (by simpa using hx) ?_).mono k2
        rw [Array.getElem?_append_right (by simp)] at hu
        simpa using hu
    rcases (hE _ _ _ _ hq).1 W1 L1 _ k1 hargs with ⟨c1, c2⟩ | ⟨c0, _⟩
    case inr =>
      rw [Array.size_append] at c0
      simp only [List.length_cons] at hCn
      have : (#[Value.func (.yield (w.heap.size + 1)) #[] #[]] : Array Value).size = 1 := rfl
      omega
    refine ⟨w.heap.size + 1, [{ target := .collected w.heap.size, args := #[] }], W1, { target := .fn (.func f) C, args := #[.func (.yield (w.heap.size + 1)) #[] #[]] }, W1, f,
      #[.func (.yield (w.heap.size + 1)) #[] #[]] ++ C, W1, ?_, ?_, fun _ _ => wideR_fn none _, ?_, (fun hd => by rw [wideR_depth] at hd; cases hd), ?_⟩
    · rw [← hW1, hrec]; exact run_enterLoop_outer _ _ _ _ _
    · simp only [resolve, hC]
      simp [go_sem]
    · simpa [invoke, go_sem] using c1
    · refine callsIn_wide.2 (Calls.mono c2 fun e' w3 ⟨cv, he', L3, q1, q2, q3, q4⟩ => ?_)
      subst he'
      rw [← e3] at q1 q2 q3
      have SR2 : SR n0 w0 L0 h nt s2 a w3 L3 := by
        have := SR1.go (d := none) rfl q2 (v := .undef) (cv := Go.undef) e4 .undef q3 q4 e5 (hlive_all h s1)
        exact this
      have hl3 : L3 (full h s).length = ⟨some (w.heap.size + 1), 0, 0, true⟩ := by
        have := q3.loc (full h s).length hidlt
        have := this.gen0 (by show (L1 _).st = true; rw [hid1])
        exact this.trans hid1
      -- the record, once all have come
      have turn : ∀ (rd' : RD) (t' : List (Nat × AV)) (j : Option (Option Nat)), getB h s2 (full h s).length = some (.lp rd' t' j) → ∃ w4 L4, (Instr.endLoop (w.heap.size + 1)).run P w3 = .ok (j.map jumpC) w4 ∧
          SR n0 w0 L0 h nt (setB h s2 (full h s).length .hid) { a with defers := [{ target := .collected w.heap.size, args := #[] }] ++ a.defers } w4 L4 := by
        intro rd' t' j hB
        have hB' : (full h s2)[(full h s).length]? = some (.lp rd' t' j) := by rw [getB_full]; exact hB
        obtain ⟨z1, b, r, z2, z3, z4⟩ := q2.blk _ _ hB'
        have hb : b = w.heap.size + 1 := by
          have : (L3 (full h s).length).blk = some b := z2
          rw [hl3] at this; exact (Option.some.inj this).symm
        subst hb
        have hz3 : w3.heap[w.heap.size + 1]? = some (.loop r) := z3
        obtain ⟨y1, y2, y3, y4, y5, y6⟩ := z4
        have hst : r.state ≠ .busy ∧ r.pending = j.map jumpC := by
          cases j with
          | none => obtain ⟨u1, u2⟩ := y5; rw [u1, u2]; exact ⟨by decide, rfl⟩
          | some j => obtain ⟨u1, u2⟩ := y5; rw [u1, u2]; exact ⟨by decide, rfl⟩
        have hend := run_endLoop (P := P) hz3 hst.1
        obtain ⟨w4, hw4⟩ : ∃ w4, w3.putObj (w.heap.size + 1) (.loop { r with state := .exhausted }) = w4 := ⟨_, rfl⟩
        rw [hw4, hst.2] at hend
        have hother : ∀ b', b' ≠ w.heap.size + 1 → w4.heap[b']? = w3.heap[b']? := fun b' hb' => by rw [← hw4]; exact World.putObj_heap_other hb'
        have hsz4 : w4.heap.size = w3.heap.size := by rw [← hw4]; simp
        obtain ⟨t1, t2⟩ := q2.turn (w' := w4) (k' := .hid) hB' rfl (L3 (full h s).length) (by rw [← hw4]; rfl) (by rw [← hw4]; rfl) (by rw [← hw4]; rfl) (by omega)
          (fun b' _ hne => hother b' (fun e => hne (by rw [e]; exact z2))) (.refl _ _) (fun b' hb' => .inl hb')
          (fun hext b' hb' => by
            have h1 : b' < w3.heap.size := by
              have h2 : (updL L3 (full h s).length (L3 (full h s).length) (full h s).length).blk = some b' := hb'
              rw [updL_self, hl3] at h2
              cases h2
              exact (Array.getElem?_eq_some_iff.1 hz3).1
            show b' < w4.heap.size
            omega)
        rw [← full_setB] at t1 t2
        have SR3 := SR2.go (d := none) rfl t1 (v := .undef) (cv := Go.undef) (setB_t ..) .undef t2 (ws := [(full h s).length]) (fun j' hj' hne => ⟨updL_ne _ _ _ (by simpa using hne), fun ⟨x', hx', lx⟩ b' hb' => hother b' (fun e => by
          subst e
          exact hne (by simp [q2.inj j' (full h s).length _ x' _ hx' hB' lx rfl hb' z2]))⟩) (Kp.setB ..) (hlive_all h s2)
        refine ⟨w4, _, hend, ⟨SR3.hr, SR3.tr, ?_, SR3.nle, SR3.sz, SR3.ext, SR3.same⟩⟩
        have hdf1 : DfOk n0 (envOf W1 (full h s1) L1) ([{ target := .collected w.heap.size, args := #[] }] ++ a.defers) := by
          refine ⟨?_, fun d hd => ?_⟩
          · rw [List.singleton_append, List.nodup_cons]
            refine ⟨fun hm => ?_, hs.df.1⟩
            obtain ⟨r', u1, u2, u3, u4⟩ := hs.df.2 _ hm
            have : w.heap.size = r' := by simpa using u1
            subst this
            have := (Array.getElem?_eq_some_iff.1 u3).1
            exact absurd this (Nat.lt_irrefl _)
          · rw [List.singleton_append] at hd
            rcases List.mem_cons.1 hd with rfl | hd
            · refine ⟨w.heap.size, rfl, Nat.le_trans hs.nle hs.ext.size, hK1, ?_⟩
              rintro ⟨i, x, hx, lx, hb'⟩
              rw [hf1] at hx
              by_cases hi : i < (full h s).length
              · rw [List.getElem?_append_left hi] at hx
                have h2 : (L i).blk = some w.heap.size := by rw [← hb', ← hLe, updL_ne _ _ _ (by omega)]
                exact absurd ((hs.hr.blk i x hx).lt lx h2) (Nat.lt_irrefl _)
              · have hi' : i = (full h s).length := by
                  have := (List.getElem?_eq_some_iff.1 hx).1
                  simp at this; omega
                subst hi'
                rw [hid1] at hb'
                simp at hb'
            · exact (hs.df.mono k2).2 d hd
        exact (hdf1.mono q3).mono t2
      unfold endRf at he
      simp only [rangePost]
      split at he
      · rename_i rd' t' hB
        cases he
        obtain ⟨w4, L4, r1, r2⟩ := turn _ _ _ hB
        exact ⟨_, w4, r1, rfl, L4, r2.kp lv⟩
      · rename_i rd' t' hB
        cases he
        obtain ⟨w4, L4, r1, r2⟩ := turn _ _ _ hB
        exact ⟨_, w4, r1, wpIn_ret ⟨rfl, L4, r2⟩⟩
      · rename_i rd' t' i hB
        cases he
        obtain ⟨w4, L4, r1, r2⟩ := turn _ _ _ hB
        exact ⟨_, w4, r1, wpIn_exit ⟨rfl, L4, r2⟩⟩
      · cases he

theorem evCode_ok (hE : FnOk P E) (hm : P.follows .mixedOrders = true) {ro : Option Nat} {fn : Nat} {top : Bool} (htop : top = true → ro = none) : ∀ (c : Code) (hs : List (List Nat)) (ic : IC) (hs' : List (List Nat)), cCode P nt top c hs = some (ic, hs') →
    ∀ (s : St) (a : Act) (w : World) (L : Nat → Lc) (e : Ex) (s' : St), SR n0 w0 L0 h nt s a w L → evCode E h ic s = some (e, s') → c.wpIn (wideR ro) fn P (Ends n0 w0 L0 h nt e s') a w := by
  intro c
  induction c with
  | skip =>
    intro hs ic hs' hc s a w L e s' hsr he
    cases hc
    simp only [evCode] at he
    cases he
    exact wpIn_skip ⟨rfl, L, hsr⟩
  | label l =>
    intro hs ic hs' hc s a w L e s' hsr he
    cases hc
    simp only [evCode] at he
    cases he
    exact wpIn_label ⟨rfl, L, hsr⟩
  | scope x ihx =>
    intro hs ic hs' hc s a w L e s' hsr he
    simp only [cCode] at hc
    refine wpIn_scope_straight (wpIn_mono (ihx hs ic hs' hc s a w L e s' hsr he) fun e' a' w' k => ?_)
    obtain ⟨k1, k2⟩ := k
    subst k1
    cases e <;> exact ⟨rfl, k2⟩
  | exit id =>
    intro hs ic hs' hc s a w L e s' hsr he
    cases hc
    simp only [evCode] at he
    cases he
    exact wpIn_exit ⟨rfl, L, hsr⟩
  | ret =>
    intro hs ic hs' hc s a w L e s' hsr he
    cases hc
    simp only [evCode] at he
    cases he
    exact wpIn_ret ⟨rfl, L, hsr⟩
  | region id ops draw =>
    intro hs ic hs' hc s a w L e s' hsr he
    simp only [cCode] at hc
    split at hc
    case h_2 => cases hc
    rename_i lv hs1
    split at hc
    case isFalse => cases hc
    rename_i hnd
    split at hc
    · rename_i hd
      subst hd
      split at hc
      case h_2 => cases hc
      rename_i ts hs2
      split at hc
      case isFalse => cases hc
      rename_i hsel
      split at hc
      case h_2 => cases hc
      rename_i t ht
      cases hc
      simp only [evCode] at he
      by_cases hts : ts.isEmpty = true
      · rw [if_pos hts] at he
        cases hq : evLead E h (h.length + s.o.length) lv [] t (pends s (allocs ops)) with
        | none => rw [hq] at he; cases he
        | some s1 =>
          rw [hq] at he
          cases he
          exact evDrw_ok hE hm hsel (fun c a w hq => by cases hq.1) ht hsr hq (fun a' w' L' k => ⟨rfl, L', k⟩) hnd (fun a w hq => by have := hq.1; cases this)
      · rw [if_neg hts] at he
        simp only [evLead] at he
        cases hq : evLead E h (h.length + s.o.length) lv (holdIds (pends s (allocs ops)) ts ++ []) t (pends s (allocs ops)) with
        | none => rw [hq] at he; cases he
        | some s1 =>
          rw [hq] at he
          cases he
          exact evDrw_ok hE hm hsel (fun c a w hq => by cases hq.1) ht hsr hq (fun a' w' L' k => ⟨rfl, L', k⟩) hnd (fun a w hq => by have := hq.1; cases this)
    · rename_i hd
      have : draw = false := by simpa using hd
      subst this
      split at hc
      · split at hc
        case h_2 => cases hc
        rename_i al hal
        cases hc
        simp only [evCode] at he
        have key : ∃ s1, evOpsY E h al s = some s1 ∧ e = .normal ∧ s' = s1.kp lv.tail := by
          obtain ⟨s1, h1, h2⟩ := kpN_inv he
          cases hq : evOpsY E h al s with
          | none => rw [hq] at h1; cases h1
          | some s2 =>
            rw [hq] at h1
            cases h1
            rcases h2 with ⟨_, rfl⟩ | ⟨h, _⟩
            · exact ⟨_, rfl, rfl, rfl⟩
            · exact absurd rfl h
        obtain ⟨s1, h1, rfl, rfl⟩ := key
        refine wpIn_region ?_
        have := evOpsY_ok hE (ro := ro) (fn := fn) (Q := Ends n0 w0 L0 h nt .normal (s1.kp lv.tail)) hnd (fun a w hq => by have := hq.1; cases this) ops.toList 0 al s a w L (fun j => by simp) hal hsr h1 fun a' w' L' k => ⟨rfl, L', k.kp _⟩
        simpa [List.range_eq_range'] using this
      split at hc
      case h_2 => cases hc
      rename_i al hal
      cases hc
      simp only [evCode] at he
      have key : ∃ s1, evOps E h al s = some s1 ∧ e = .normal ∧ s' = s1.kp lv := by
        obtain ⟨s1, h1, h2⟩ := kpN_inv he
        cases hq : evOps E h al s with
        | none => rw [hq] at h1; cases h1
        | some s2 =>
          rw [hq] at h1
          cases h1
          rcases h2 with ⟨_, rfl⟩ | ⟨h, _⟩
          · exact ⟨_, rfl, rfl, rfl⟩
          · exact absurd rfl h
      obtain ⟨s1, h1, rfl, rfl⟩ := key
      exact evReg_ok hE hal hsr h1 (fun a' w' L' k => ⟨rfl, L', k.kp lv⟩) hnd (fun a w hq => by have := hq.1; cases this)
  | seq x y ihx ihy =>
    intro hs ic hs' hc s a w L e s' hsr he
    simp only [cCode] at hc
    split at hc
    case h_2 => cases hc
    rename_i cx hs1 h1
    split at hc
    case h_2 => cases hc
    rename_i cy hs2 h2
    cases hc
    simp only [evCode, sk] at he
    split at he
    · rename_i s1 hx
      refine wpIn_seq (wpIn_mono (ihx hs cx hs1 h1 s a w L _ s1 hsr hx) fun e' a' w' ⟨k1, L', k2⟩ => ?_)
      subst k1
      exact ihy hs1 cy hs' h2 s1 a' w' L' e s' k2 he
    · rename_i hn
      refine wpIn_seq (wpIn_mono (ihx hs cx hs1 h1 s a w L _ s' hsr he) fun e' a' w' ⟨k1, k2⟩ => ?_)
      subst k1
      cases e with
      | normal => exact absurd he (fun hh => hn s' hh)
      | exit id => exact ⟨rfl, k2⟩
      | ret => exact ⟨rfl, k2⟩
  | cond c x y ihx ihy =>
    intro hs ic hs' hc s a w L e s' hsr he
    simp only [cCode] at hc
    split at hc
    case h_2 => cases hc
    rename_i lv hs0
    split at hc
    case h_2 => cases hc
    rename_i oc hoc
    split at hc
    case h_2 => cases hc
    rename_i cx hs1 h1
    split at hc
    case h_2 => cases hc
    rename_i cy hs2 h2
    cases hc
    simp only [evCode] at he
    split at he
    case h_2 => cases he
    rename_i b hb
    have hcv := (cOpd_ok hsr.tr hoc hb).inv_g.inv_bool
    refine wpIn_cond hcv ?_
    cases b with
    | true =>
      simp only [if_true] at he ⊢
      obtain ⟨s1, k1, _⟩ := kpN_inv he
      exact wpIn_mono (ihx hs0 cx hs1 h1 s a w L e s1 hsr k1) fun e' a' w' k => ends_kp he fun s2 hs2 => by rw [k1] at hs2; cases hs2; exact k
    | false =>
      simp only [Bool.false_eq_true, if_false] at he ⊢
      obtain ⟨s1, k1, _⟩ := kpN_inv he
      exact wpIn_mono (ihy hs1 cy hs' h2 s a w L e s1 hsr k1) fun e' a' w' k => ends_kp he fun s2 hs2 => by rw [k1] at hs2; cases hs2; exact k
  | block id x ihx =>
    intro hs ic hs' hc s a w L e s' hsr he
    simp only [cCode] at hc
    split at hc
    case h_2 => cases hc
    rename_i lv hs0
    split at hc
    case h_2 => cases hc
    rename_i cx hs1 h1
    cases hc
    simp only [evCode, bk] at he
    refine wpIn_block ?_
    split at he
    · rename_i i s1 hx
      refine wpIn_mono (ihx hs0 cx hs' h1 s a w L _ s1 hsr hx) fun e' a' w' ⟨k1, L', k2⟩ => ?_
      subst k1
      show if i = id then _ else _
      split at he
      · rename_i hi
        cases he
        rw [if_pos hi]
        exact ⟨rfl, L', k2.kp lv⟩
      · rename_i hi
        cases he
        rw [if_neg hi]
        exact ⟨rfl, L', k2⟩
    · rename_i s1 hx
      cases he
      refine wpIn_mono (ihx hs0 cx hs' h1 s a w L _ s1 hsr hx) fun e' a' w' ⟨k1, L', k2⟩ => ?_
      subst k1
      exact ⟨rfl, L', k2.kp lv⟩
    · rename_i hn1 hn2
      refine wpIn_mono (ihx hs0 cx hs' h1 s a w L _ s' hsr he) fun e' a' w' ⟨k1, L', k2⟩ => ?_
      subst k1
      cases e with
      | normal => exact absurd he (fun hh => hn2 s' hh)
      | exit id => exact absurd he (fun hh => hn1 _ s' hh)
      | ret => exact ⟨rfl, L', k2⟩
  | loop x ihx =>
    intro hs ic hs' hc s a w L e s' hsr he
    simp only [cCode] at hc
    split at hc
    case h_2 => cases hc
    rename_i lv hs0
    split at hc
    case h_2 => cases hc
    rename_i cx hs1 h1
    cases hc
    simp only [evCode, loopL] at he
    obtain ⟨n, hn⟩ := lim_some he
    refine wpIn_loop_rounds n ?_
    have key : ∀ (n : Nat) (s : St) (a : Act) (w : World) (L : Nat → Lc), SR n0 w0 L0 h nt s a w L → loopF (fun s => evCode E h cx s) lv n s = some (e, s') → Code.roundsIn (wideR ro) fn P x (Ends n0 w0 L0 h nt e s') n a w := by
      intro n
      induction n with
      | zero => intro s a w L _ hh; cases hh
      | succ n ih =>
        intro s a w L hsr hh
        simp only [loopF, sk] at hh
        rw [roundsIn_succ]
        split at hh
        · rename_i s1 hx
          refine wpIn_mono (ihx hs0 cx hs' h1 s a w L _ s1 hsr hx) fun e' a' w' ⟨k1, L', k2⟩ => ?_
          subst k1
          exact ih (s1.kp lv) a' w' L' (k2.kp lv) hh
        · rename_i hnn
          refine wpIn_mono (ihx hs0 cx hs' h1 s a w L _ s' hsr hh) fun e' a' w' ⟨k1, L', k2⟩ => ?_
          subst k1
          cases e with
          | normal => exact absurd hh (fun h => hnn s' h)
          | exit id => exact ⟨rfl, L', k2⟩
          | ret => exact ⟨rfl, L', k2⟩
    exact key n (s.kp lv) a w L (hsr.kp lv) hn
  | rangeFunc g ps x y _ _ =>
    intro hs ic hs' hc s a w L e s' hsr he
    simp only [cCode] at hc
    split at hc
    · rename_i key lv lt hs1
      split at hc
      · rename_i ht
        obtain rfl := htop ht
        split at hc
        · rename_i f hf
          cases hc
          simp only [evCode] at he
          exact evRf_ok (rd := ⟨key, nt, ps, x, y⟩) hE hsr hf rfl he
        · cases hc
      · cases hc
        rw [dead_none] at he
        cases he
    · cases hc
      rw [dead_none] at he
      cases he
  | _ =>
    intro hs ic hs' hc s a w L e s' hsr he
    simp only [cCode] at hc
    cases hc
    rw [dead_none] at he
    cases he

end
end Go.AM
end
section
set_option linter.unusedSimpArgs false
set_option linter.unusedVariables false
namespace Go.AM
open Go

theorem GR.shrink {E E' : Env} (hw : E'.w = E.w) (hO : ∀ b, E'.O b → E.O b) {v : GV} {cv : Value} (hv : GR E v cv) : GR E' v cv := by
  induction hv with
  | bool b => exact .bool b
  | int k n => exact .int k n
  | str s => exact .str s
  | sl c hcap hb hO' hsz hc hg ih =>
    refine .sl c hcap (by rw [hw]; exact hb) (fun h => hO' (hO _ h)) hsz (fun i el j a h1 h2 => ?_) ih
    rw [hw]; exact hc i el j a h1 h2
  | sl0 sz a cap => exact .sl0 sz a cap
  | nsl => exact .nsl
  | nptr => exact .nptr
  | nmap => exact .nmap
  | nfn => exact .nfn
  | nif => exact .nif
  | sen g t s hg hO' hc ha hOa hb hs => exact .sen g t s (by rw [hw]; exact hg) (fun h => hO' (hO _ h)) (by rw [hw]; exact hc) (by rw [hw]; exact ha) (fun h => hOa (hO _ h)) (by rw [hw]; exact hb) (by rw [hw]; exact hs)
  | fn f => exact .fn f
  | ifc t _ ih => exact .ifc t ih

theorem AR.shrink0 {E E' : Env} (hw : E'.w = E.w) (hO : ∀ b, E'.O b → E.O b) (hL : E'.L = E.L) {v : AV} {cv : Value} (hv : AR E v cv) (hl : v.lt0 E'.n = true) : AR E' v cv := by
  cases hv with
  | g h => exact .g (h.shrink hw hO)
  | cp c hb hO' hc hg => exact .cp c (by rw [hw]; exact hb) (fun h => hO' (hO _ h)) (fun j a h => by rw [hw]; exact hc j a h) fun j a h => (hg j a h).shrink hw hO
  | ptr hid hgen hb => exact .ptr (by simpa [AV.lt0] using hl) (by rw [hL]; exact hgen) (by rw [hL]; exact hb)
  | ms hid h0 hle h1 hm hz => exact .ms (by simpa [AV.lt0] using hl) (by rw [hL]; exact h0) (by rw [hL]; exact hle) h1 (by rw [hL]; exact hm) (by rw [hL]; exact hz)
  | rp hid h0 hle h1 hm => exact .rp (by simpa [AV.lt0] using hl) (by rw [hL]; exact h0) (by rw [hL]; exact hle) h1 (by rw [hL]; exact hm)
  | via t p f q => exact .via t p f q
  | mp hid hgen hb => exact .mp (by simpa [AV.lt0] using hl) (by rw [hL]; exact hgen) (by rw [hL]; exact hb)
  | yv hid hgen hb => exact .yv (by simpa [AV.lt0] using hl) (by rw [hL]; exact hgen) (by rw [hL]; exact hb)
  | any h1 => exact .any h1
  | undef => exact .undef
  | agg _ _ _ => simp [AV.lt0] at hl
  | tup _ _ => simp [AV.lt0] at hl
  | fv _ _ => simp [AV.lt0] at hl
  | bv _ _ => simp [AV.lt0] at hl
  | ifa _ _ => simp [AV.lt0] at hl

theorem AR.shrink1 {E E' : Env} (hw : E'.w = E.w) (hO : ∀ b, E'.O b → E.O b) (hL : E'.L = E.L) {v : AV} {cv : Value} (hv : AR E v cv) (hl : v.lt1 E'.n = true) : AR E' v cv := by
  cases v with
  | fv f caps =>
    cases hv with
    | fv hn hc =>
      refine .fv hn fun j a u ha hu => (hc j a u ha hu).shrink0 hw hO hL ?_
      exact List.all_eq_true.1 hl a (List.mem_of_getElem? ha)
  | bv f caps =>
    cases hv with
    | bv hn hc =>
      refine .bv hn fun j a u ha hu => (hc j a u ha hu).shrink0 hw hO hL ?_
      exact List.all_eq_true.1 hl a (List.mem_of_getElem? ha)
  | ifa t v =>
    cases hv with
    | ifa _ h => exact .ifa t (h.shrink0 hw hO hL hl)
  | _ => exact hv.shrink0 hw hO hL hl

theorem HB.shrink {E E' : Env} (hw : E'.w = E.w) (hO : ∀ b, E'.O b → E.O b) (hL : E'.L = E.L) {id : Nat} {k : Blk} (hk : HB E id k) (hl : k.lt1 E'.n = true) : HB E' id k := by
  have vr : ∀ {g : Option GV} {c : Value}, VR E g c → VR E' g c := fun {g c} k => by
    cases g with
    | none => exact k
    | some g => exact GR.shrink hw hO k
  have rows : ∀ {C : Array Value} {sz cap : Nat} {els : List (List GV)}, RowsIn E C sz cap els → RowsIn E' C sz cap els := fun k =>
    ⟨k.1, k.2.1, fun i el hi => ⟨(k.2.2 i el hi).1, fun j a hj => let ⟨v, h1, h2⟩ := (k.2.2 i el hi).2 j a hj; ⟨v, h1, h2.shrink hw hO⟩⟩⟩
  cases k with
  | cells cs =>
    obtain ⟨h0, b, T, C, h1, h2, h3⟩ := hk
    refine ⟨by rw [hL]; exact h0, b, T, C, by rw [hL]; exact h1, by rw [hw]; exact h2, h3.1, fun j a hj => ?_⟩
    obtain ⟨v, k1, k2, k3⟩ := h3.2 j a hj
    exact ⟨v, k1, k2.shrink1 hw hO hL (List.all_eq_true.1 hl a (List.mem_of_getElem? hj)), k3⟩
  | rows sz g els =>
    obtain ⟨h0, h1, h2⟩ := hk
    refine ⟨by rw [hL]; exact h0, ⟨by rw [hL]; exact h1.1, h1.2⟩, ?_⟩
    rw [hL, hw]
    cases hq : (E.L id).blk with
    | none => rw [hq] at h2; exact h2
    | some b => rw [hq] at h2; obtain ⟨T, C, h3, h4⟩ := h2; exact ⟨T, C, h3, rows h4⟩
  | bld T cs =>
    obtain ⟨h0, b, C, h1, h2, h3⟩ := hk
    refine ⟨by rw [hL]; exact h0, b, C, by rw [hL]; exact h1, by rw [hw]; exact h2, h3.1, fun j a hj => ?_⟩
    obtain ⟨v, k1, k2, k3⟩ := h3.2 j a hj
    exact ⟨v, k1, k2.shrink1 hw hO hL (List.all_eq_true.1 hl a (List.mem_of_getElem? hj)), k3⟩
  | trow T sz g els =>
    obtain ⟨h0, h1, h2⟩ := hk
    refine ⟨by rw [hL]; exact h0, ⟨by rw [hL]; exact h1.1, h1.2⟩, ?_⟩
    rw [hL, hw]
    cases hq : (E.L id).blk with
    | none => rw [hq] at h2; exact h2
    | some b => rw [hq] at h2; obtain ⟨C, h3, h4⟩ := h2; exact ⟨C, h3, rows h4⟩
  | fro sz g els =>
    obtain ⟨h0, h1, h2⟩ := hk
    refine ⟨by rw [hL]; exact h0, h1, ?_⟩
    rw [hL, hw]
    cases hq : (E.L id).blk with
    | none => rw [hq] at h2; exact h2
    | some b => rw [hq] at h2; obtain ⟨h3, h4, T, C, fr, h5, h6⟩ := h2; exact ⟨h3, fun h => h4 (hO _ h), T, C, fr, h5, rows h6⟩
  | map es =>
    obtain ⟨h0, b, en, ck, h1, h2, h3, h4⟩ := hk
    exact ⟨by rw [hL]; exact h0, b, en, ck, by rw [hL]; exact h1, by rw [hw]; exact h2, ⟨h3.1, fun j p e k1 k2 => ⟨(h3.2 j p e k1 k2).1.shrink hw hO, vr (h3.2 j p e k1 k2).2⟩⟩, h4⟩
  | map2 es =>
    obtain ⟨h0, b, en, ck, h1, h2, h3⟩ := hk
    refine ⟨by rw [hL]; exact h0, b, en, ck, by rw [hL]; exact h1, by rw [hw]; exact h2, h3.1, fun j p e k1 k2 => ⟨?_, vr (h3.2 j p e k1 k2).2⟩⟩
    have hk2 : AR E (.agg (p.1.map .g)) e.key := (h3.2 j p e k1 k2).1
    show AR E' (.agg (p.1.map .g)) e.key
    generalize e.key = q at hk2
    cases hk2 with
    | agg hn hh h1' =>
      refine .agg hn (fun i a v ha hv => ?_) h1'
      have hav := hh i a v ha hv
      simp only [List.getElem?_map, Option.map_eq_some_iff] at ha
      obtain ⟨g, _, rfl⟩ := ha
      exact .g (hav.inv_g.shrink hw hO)
  | lp rd t j =>
    obtain ⟨h0, b, r, h1, h2, h3⟩ := hk
    refine ⟨by rw [hL]; exact h0, b, r, by rw [hL]; exact h1, by rw [hw]; exact h2, h3.1, h3.2.1, h3.2.2.1, h3.2.2.2.1, h3.2.2.2.2.1, fun i v hi => ?_⟩
    refine (h3.2.2.2.2.2 i v hi).shrink1 hw hO hL ?_
    have : ∀ (t : List (Nat × AV)), (t.all fun p => p.2.lt1 E'.n) = true → look t i = some v → v.lt1 E'.n = true := by
      intro t
      induction t with
      | nil => intro _ h; cases h
      | cons p t ih =>
        intro ha h
        simp only [List.all_cons, Bool.and_eq_true] at ha
        simp only [look] at h
        split at h
        · cases h; exact ha.1
        · exact ih ha.2 h
    exact this t hl hi
  | pend => rw [HB, hL]; exact hk
  | gsen t s => obtain ⟨c, hc⟩ := hk; exact ⟨c, hc.shrink hw hO⟩
  | hid => intro b hb; rw [hL] at hb; rw [hw]; exact hk b hb

section
variable {w : World} {A o : List Blk} {L : Nat → Lc}

theorem own_left {b : Nat} (hb : Own A L b) : Own (A ++ o) L b := by
  obtain ⟨id, k, h1, h2, h3⟩ := hb
  exact ⟨id, k, by rw [List.getElem?_append_left (List.getElem?_eq_some_iff.1 h1).1]; exact h1, h2, h3⟩

theorem live_left {i : Nat} (hi : Live A i) : Live (A ++ o) i := by
  obtain ⟨k, h1, h2⟩ := hi
  exact ⟨k, by rw [List.getElem?_append_left (List.getElem?_eq_some_iff.1 h1).1]; exact h1, h2⟩

/-- The last blocks are let go. -/
theorem HR.drop (hr : HR w (A ++ o) L) (hl : ∀ (i : Nat) (k : Blk), A[i]? = some k → k.lt1 A.length = true ∨ HB (envOf w A L) i k) : HR w A L := by
  have hget : ∀ (i : Nat) (k : Blk), A[i]? = some k → (A ++ o)[i]? = some k := fun i k hk => by
    rw [List.getElem?_append_left (List.getElem?_eq_some_iff.1 hk).1]; exact hk
  refine ⟨fun id k hk => ?_, fun i j b x y hx hy lx ly hi hj => hr.inj i j b x y (hget i x hx) (hget j y hy) lx ly hi hj⟩
  rcases hl id k hk with hl | hl
  · exact HB.shrink (E := envOf w (A ++ o) L) (E' := envOf w A L) rfl (fun b => own_left) rfl (hr.blk id k (hget id k hk)) hl
  · exact hl

theorem ext_drop {E0 : Env} (he : Ext E0 (envOf w (A ++ o) L)) (hn : E0.n ≤ A.length) : Ext E0 (envOf w A L) where
  os := he.os
  tape := he.tape
  output := he.output
  size := he.size
  keep b hb hO := ⟨(he.keep b hb hO).1, fun h => (he.keep b hb hO).2 (own_left h)⟩
  le := hn
  loc := he.loc
  lv id hid hv := he.lv id hid (live_left hv)
end

section
variable {n0 : Nat} {w w0 : World} {L L0 : Nat → Lc} {h : List Blk} {nt : Nat} {s : St} {a : Act}

theorem frz0_ok (hr : HR w (full h s) L) {v v' : AV} {cv : Value} (he : frz0 h s v = some v') (hv : AR (envOf w (full h s) L) v cv) : AR (envOf w (applyM h s.m) L) v' cv := by
  have hO : ∀ b, (envOf w (applyM h s.m) L).O b → (envOf w (full h s) L).O b := fun b => own_left
  have hn : (envOf w (applyM h s.m) L).n = h.length := applyM_length ..
  have plain : ∀ v : AV, AR (envOf w (full h s) L) v cv → v.lt1 h.length = true → AR (envOf w (applyM h s.m) L) v cv := fun v hv hl =>
    AR.shrink1 (E := envOf w (full h s) L) (E' := envOf w (applyM h s.m) L) rfl hO rfl hv (by rw [hn]; exact hl)
  unfold frz0 at he
  split at he
  · rename_i id g sz off len
    split at he
    · rename_i hid
      cases he
      exact plain _ hv (by simpa [AV.lt1, AV.lt0] using hid)
    · rename_i hid
      split at he
      case h_2 => cases he
      rename_i els hview
      cases he
      simp only [viewN, if_true] at hview
      cases hv with
      | ms hid' hg0 hle h1 hm hz =>
      have main : ∀ (els0 : List (List GV)), g = ((envOf w (full h s) L).L id).gen → off + len ≤ els0.length → els = (els0.drop off).take len →
          (match (L id).blk with
            | none => els0 = [] ∧ (L id).cap = 0
            | some b => b < w.heap.size ∧ ¬ (envOf w (applyM h s.m) L).O b ∧ ∃ T C fr, w.heap[b]? = some (.cells C T fr) ∧ RowsIn (envOf w (full h s) L) C sz (L id).cap els0) → AR (envOf w (applyM h s.m) L) (.g (if g = 1 then .nsl else .sl sz els)) cv := by
        intro els0 hg hlen hels hb
        have hm := hm hg
        have hz := hz hg
        unfold MsOk at hm
        have hL : (envOf w (full h s) L).L id = L id := rfl
        rw [hL] at hm hz
        cases hq : (L id).blk with
        | none =>
          rw [hq] at hm hb
          obtain ⟨rfl, rfl, rfl⟩ := hm
          obtain ⟨rfl, _⟩ := hb
          rw [if_pos (hz.2 hq)]
          exact .g .nsl
        | some b =>
          rw [hq] at hm hb
          rw [if_neg (fun e => by rw [hz.1 e] at hq; cases hq)]
          obtain ⟨A, c, rfl, hc, hlc, hA⟩ := hm
          obtain ⟨hbs, hbO, T, C, fr, hheap, hrow⟩ := hb
          have hl : els.length = len := by subst hels; simp; omega
          by_cases hc0 : len = 0
          · subst hc0
            have : els = [] := List.eq_nil_of_length_eq_zero hl
            rw [this]
            exact .g (.sl0 sz _ _)
          · have hA' : A = ⟨b, off * sz, none⟩ := by
              rcases hA with h | h
              · exact h
              · omega
            subst hA'
            rw [← hl]
            have hget : ∀ (i : Nat) (el : List GV), els[i]? = some el → els0[off + i]? = some el := by
              intro i el hi
              subst hels
              rw [List.getElem?_take] at hi
              split at hi
              · rw [List.getElem?_drop] at hi; exact hi
              · cases hi
            refine .g (.sl (fun i j => (C[(off + i) * sz + j]?).getD Go.undef) (by omega) hbs hbO (fun i el hi => (hrow.2.2 _ el (hget i el hi)).1) (fun i el j x hi hj => ?_) (fun i el j x hi hj => ?_))
            · obtain ⟨v, k1, k2⟩ := (hrow.2.2 _ el (hget i el hi)).2 j x hj
              rw [show off * sz + i * sz + j = (off + i) * sz + j from by rw [Nat.add_mul]]
              show w.cell? _ = _
              simp [World.cell?, hheap, k1]
            · obtain ⟨v, k1, k2⟩ := (hrow.2.2 _ el (hget i el hi)).2 j x hj
              rw [k1]
              exact GR.shrink (E := envOf w (full h s) L) (E' := envOf w (applyM h s.m) L) rfl hO k2
      split at hview
      · rename_i sz2 g' els0 hB
        split at hview
        case isFalse => cases hview
        rename_i hcond
        cases hview
        obtain ⟨rfl, rfl, hlen⟩ := hcond
        have hfull : (full h s)[id]? = some (.rows sz2 g els0) := by rw [getB_full]; exact hB
        obtain ⟨k0, k1, k2⟩ := hr.blk id _ hfull
        refine main els0 k0.symm hlen rfl ?_
        change (match (L id).blk with | none => _ | some b => _) at k2
        cases hq : (L id).blk with
        | none => rw [hq] at k2; exact k2
        | some b =>
          rw [hq] at k2
          obtain ⟨T, C, k3, k4⟩ := k2
          refine ⟨(Array.getElem?_eq_some_iff.1 k3).1, ?_, T, C, (0, 0), k3, k4⟩
          rintro ⟨id', k, j1, j2, j3⟩
          have j1' : (full h s)[id']? = some k := by
            unfold full
            rw [List.getElem?_append_left (List.getElem?_eq_some_iff.1 j1).1]; exact j1
          have := hr.inj id' id b k _ j1' hfull j2 rfl j3 hq
          subst this
          have := (List.getElem?_eq_some_iff.1 j1).1
          rw [applyM_length] at this
          exact hid this
      · rename_i sz2 g' els0 hB
        split at hview
        case isFalse => cases hview
        rename_i hcond
        cases hview
        obtain ⟨rfl, rfl, hlen⟩ := hcond
        have hfull : (full h s)[id]? = some (.fro sz2 g els0) := by rw [getB_full]; exact hB
        obtain ⟨k0, k1, k2⟩ := hr.blk id _ hfull
        refine main els0 k0.symm hlen rfl ?_
        change (match (L id).blk with | none => _ | some b => _) at k2
        cases hq : (L id).blk with
        | none => rw [hq] at k2; exact k2
        | some b =>
          rw [hq] at k2
          obtain ⟨k3, k4, T, C, fr, k5, k6⟩ := k2
          exact ⟨k3, fun hh => k4 (hO _ hh), T, C, fr, k5, k6⟩
      · cases hview
  · split at he
    · rename_i hl
      cases he
      exact plain _ hv hl
    · cases he

theorem frz1_ok : ∀ (vs vs' : List AV), frz1 h s vs = some vs' → vs'.length = vs.length ∧ ∀ (j : Nat) (x : AV), vs'[j]? = some x → ∃ y, vs[j]? = some y ∧ frz0 h s y = some x
  | [], vs', he => by cases he; exact ⟨rfl, fun j x hx => by simp at hx⟩
  | v :: r, vs', he => by
    simp only [frz1] at he
    split at he
    case h_2 => cases he
    rename_i v1 r1 h1 h2
    cases he
    obtain ⟨k1, k2⟩ := frz1_ok r r1 h2
    refine ⟨by simp [k1], fun j x hx => ?_⟩
    cases j with
    | zero => simp at hx; subst hx; exact ⟨v, rfl, h1⟩
    | succ j => simp at hx; obtain ⟨y, hy, hz⟩ := k2 j x hx; exact ⟨y, by simpa using hy, hz⟩

theorem frz2_ok (hr : HR w (full h s) L) {v v' : AV} {cv : Value} (he : frz2 h s v = some v') (hv : AR (envOf w (full h s) L) v cv) : AR (envOf w (applyM h s.m) L) v' cv := by
  unfold frz2 at he
  split at he
  · rename_i cs
    split at he
    case h_2 => cases he
    rename_i cs' hc
    cases he
    obtain ⟨k1, k2⟩ := frz1_ok cs cs' hc
    cases hv with
    | agg hn hx h1 =>
      refine .agg (by omega) (fun j x v hj hv' => ?_) h1
      obtain ⟨y, hy, hz⟩ := k2 j x hj
      exact frz0_ok hr hz (hx j y v hy hv')
  · exact frz0_ok hr he hv

theorem frz3_ok : ∀ (vs vs' : List AV), frz3 h s vs = some vs' → vs'.length = vs.length ∧ ∀ (j : Nat) (x : AV), vs'[j]? = some x → ∃ y, vs[j]? = some y ∧ frz2 h s y = some x
  | [], vs', he => by cases he; exact ⟨rfl, fun j x hx => by simp at hx⟩
  | v :: r, vs', he => by
    simp only [frz3] at he
    split at he
    case h_2 => cases he
    rename_i v1 r1 h1 h2
    cases he
    obtain ⟨k1, k2⟩ := frz3_ok r r1 h2
    refine ⟨by simp [k1], fun j x hx => ?_⟩
    cases j with
    | zero => simp at hx; subst hx; exact ⟨v, rfl, h1⟩
    | succ j => simp at hx; obtain ⟨y, hy, hz⟩ := k2 j x hx; exact ⟨y, by simpa using hy, hz⟩
end
end Go.AM
end
section
set_option linter.unusedSimpArgs false
set_option linter.unusedVariables false
namespace Go.AM
open Go

structure Shut (E E' : Env) (r : Nat) : Prop where
  O : E'.O = E.O
  L : E'.L = E.L
  n : E'.n = E.n
  V : E'.V = E.V
  os : E'.w.os = E.w.os
  tape : E'.w.tape = E.w.tape
  output : E'.w.output = E.w.output
  size : E'.w.heap.size = E.w.heap.size
  keep : ∀ b, b ≠ r → E'.w.heap[b]? = E.w.heap[b]?
  old : ∃ x, E.w.heap[r]? = some (.deferred x)
  own : ¬ E.O r

section
variable {E E' : Env} {r : Nat}

theorem Shut.cell (h : Shut E E' r) {b o : Nat} {v : Value} (hc : E.w.cell? ⟨b, o, none⟩ = some v) : E'.w.cell? ⟨b, o, none⟩ = some v := by
  by_cases e : b = r
  · subst e
    obtain ⟨x, hx⟩ := h.old
    simp [World.cell?, hx] at hc
  · rw [← hc]
    simp [World.cell?, h.keep b e]

theorem GR.shut (h : Shut E E' r) {v : GV} {cv : Value} (hv : GR E v cv) : GR E' v cv := by
  induction hv with
  | bool b => exact .bool b
  | int k n => exact .int k n
  | str s => exact .str s
  | sl c hcap hb hO hsz hc hg ih => exact .sl c hcap (by rw [h.size]; exact hb) (by rw [h.O]; exact hO) hsz (fun i el j a h1 h2 => h.cell (hc i el j a h1 h2)) ih
  | sl0 sz a cap => exact .sl0 sz a cap
  | nsl => exact .nsl
  | nptr => exact .nptr
  | nmap => exact .nmap
  | nfn => exact .nfn
  | nif => exact .nif
  | @sen g t s ad C T hg hO hc ha hOa hb hs =>
    have hne : ad.block ≠ r := fun e => by obtain ⟨x, hx⟩ := h.old; rw [e, hx] at hb; cases hb
    refine .sen g t s (by rw [h.size]; exact hg) (by rw [h.O]; exact hO) (h.cell hc) (by rw [h.size]; exact ha) (by rw [h.O]; exact hOa) (by rw [h.keep _ hne]; exact hb) ?_
    rw [← hs]; simp [World.cell?, h.keep _ hne]
  | fn f => exact .fn f
  | ifc t _ ih => exact .ifc t ih

theorem AR.shut (h : Shut E E' r) {v : AV} {cv : Value} (hv : AR E v cv) : AR E' v cv := by
  induction hv with
  | g hg => exact .g (hg.shut h)
  | agg hn _ h1 ih => exact .agg hn ih h1
  | tup hn _ ih => exact .tup hn ih
  | cp c hb hO hc hg => exact .cp c (by rw [h.size]; exact hb) (by rw [h.O]; exact hO) (fun j a h1 => h.cell (hc j a h1)) fun j a h1 => (hg j a h1).shut h
  | ptr hid hgen hb => exact .ptr (by rw [h.n]; exact hid) (by rw [h.L]; exact hgen) (by rw [h.L]; exact hb)
  | ms hid h0 hle h1 hm hz => exact .ms (by rw [h.n]; exact hid) (by rw [h.L]; exact h0) (by rw [h.L]; exact hle) h1 (by rw [h.L]; exact hm) (by rw [h.L]; exact hz)
  | rp hid h0 hle h1 hm => exact .rp (by rw [h.n]; exact hid) (by rw [h.L]; exact h0) (by rw [h.L]; exact hle) h1 (by rw [h.L]; exact hm)
  | fv hn _ ih => exact .fv hn ih
  | bv hn _ ih => exact .bv hn ih
  | via t p f q => exact .via t p f q
  | ifa t _ ih => exact .ifa t ih
  | mp hid hgen hb => exact .mp (by rw [h.n]; exact hid) (by rw [h.L]; exact hgen) (by rw [h.L]; exact hb)
  | yv hid hgen hb => exact .yv (by rw [h.n]; exact hid) (by rw [h.L]; exact hgen) (by rw [h.L]; exact hb)
  | any h1 => exact .any h1
  | undef => exact .undef

theorem VR.shut (h : Shut E E' r) {g : Option GV} {c : Value} (k : VR E g c) : VR E' g c := by
  cases g with
  | none => exact k
  | some g => exact GR.shut h k
theorem RowsIn.shut (h : Shut E E' r) {C : Array Value} {sz cap : Nat} {els : List (List GV)} (k : RowsIn E C sz cap els) : RowsIn E' C sz cap els :=
  ⟨k.1, k.2.1, fun i el hi => ⟨(k.2.2 i el hi).1, fun j a hj => let ⟨v, h1, h2⟩ := (k.2.2 i el hi).2 j a hj; ⟨v, h1, h2.shut h⟩⟩⟩
theorem CellsIn.shut (h : Shut E E' r) {C : Array Value} {cs : List AV} (k : CellsIn E C cs) : CellsIn E' C cs :=
  ⟨k.1, fun j a hj => let ⟨v, h1, h2, h3⟩ := k.2 j a hj; ⟨v, h1, h2.shut h, h3⟩⟩

theorem HB.shut (h : Shut E E' r) {id : Nat} {k : Blk} (hl : k.live = true → ∀ b, (E.L id).blk = some b → b ≠ r) (hk : HB E id k) : HB E' id k := by
  cases k with
  | cells cs =>
    obtain ⟨h0, b, T, C, h1, h2, h3⟩ := hk
    exact ⟨by rw [h.L]; exact h0, b, T, C, by rw [h.L]; exact h1, by rw [h.keep b (hl rfl b h1)]; exact h2, h3.shut h⟩
  | rows sz g els =>
    obtain ⟨h0, h1, h2⟩ := hk
    refine ⟨by rw [h.L]; exact h0, ⟨by rw [h.L]; exact h1.1, h1.2⟩, ?_⟩
    rw [h.L]
    cases hq : (E.L id).blk with
    | none => rw [hq] at h2; exact h2
    | some b => rw [hq] at h2; obtain ⟨T, C, h3, h4⟩ := h2; exact ⟨T, C, by rw [h.keep b (hl rfl b hq)]; exact h3, h4.shut h⟩
  | bld T cs =>
    obtain ⟨h0, b, C, h1, h2, h3⟩ := hk
    exact ⟨by rw [h.L]; exact h0, b, C, by rw [h.L]; exact h1, by rw [h.keep b (hl rfl b h1)]; exact h2, h3.shut h⟩
  | trow T sz g els =>
    obtain ⟨h0, h1, h2⟩ := hk
    refine ⟨by rw [h.L]; exact h0, ⟨by rw [h.L]; exact h1.1, h1.2⟩, ?_⟩
    rw [h.L]
    cases hq : (E.L id).blk with
    | none => rw [hq] at h2; exact h2
    | some b => rw [hq] at h2; obtain ⟨C, h3, h4⟩ := h2; exact ⟨C, by rw [h.keep b (hl rfl b hq)]; exact h3, h4.shut h⟩
  | fro sz g els =>
    obtain ⟨h0, h1, h2⟩ := hk
    refine ⟨by rw [h.L]; exact h0, h1, ?_⟩
    rw [h.L]
    cases hq : (E.L id).blk with
    | none => rw [hq] at h2; exact h2
    | some b =>
      rw [hq] at h2; obtain ⟨h3, h4, T, C, fr, h5, h6⟩ := h2
      have hne : b ≠ r := fun e => by
        subst e
        obtain ⟨x, hx⟩ := h.old
        rw [hx] at h5; cases h5
      exact ⟨by rw [h.size]; exact h3, by rw [h.O]; exact h4, T, C, fr, by rw [h.keep b hne]; exact h5, h6.shut h⟩
  | map es =>
    obtain ⟨h0, b, en, ck, h1, h2, h3, h4⟩ := hk
    exact ⟨by rw [h.L]; exact h0, b, en, ck, by rw [h.L]; exact h1, by rw [h.keep b (hl rfl b h1)]; exact h2, ⟨h3.1, fun j p e k1 k2 => ⟨(h3.2 j p e k1 k2).1.shut h, (h3.2 j p e k1 k2).2.shut h⟩⟩, h4⟩
  | map2 es =>
    obtain ⟨h0, b, en, ck, h1, h2, h3⟩ := hk
    exact ⟨by rw [h.L]; exact h0, b, en, ck, by rw [h.L]; exact h1, by rw [h.keep b (hl rfl b h1)]; exact h2, h3.1, fun j p e k1 k2 => ⟨AR.shut h (h3.2 j p e k1 k2).1, (h3.2 j p e k1 k2).2.shut h⟩⟩
  | lp rd t j =>
    obtain ⟨h0, b, q, h1, h2, h3⟩ := hk
    exact ⟨by rw [h.L]; exact h0, b, q, by rw [h.L]; exact h1, by rw [h.keep b (hl rfl b h1)]; exact h2, h3.1, h3.2.1, h3.2.2.1, h3.2.2.2.1, h3.2.2.2.2.1, fun i v hi => (h3.2.2.2.2.2 i v hi).shut h⟩
  | pend => rw [HB, h.L]; exact hk
  | gsen t s => obtain ⟨c, hc⟩ := hk; exact ⟨c, hc.shut h⟩
  | hid => intro b hb'; rw [h.L] at hb'; rw [h.size]; exact hk b hb'
end

section
variable {n0 : Nat} {P : Program} {w w0 : World} {L L0 : Nat → Lc} {h : List Blk} {nt : Nat} {s : St} {a : Act}

theorem SR.shut (hn : w0.heap.size ≤ n0) (hs : SR n0 w0 L0 h nt s a w L) {d : Deferred} {ds : List Deferred} (hd : a.defers = d :: ds) :
    ∃ r w', d.target = .collected r ∧ (Instr.takeDeferred r).run P w = .ok [] w' ∧ SR n0 w0 L0 h nt s { a with defers := ds } w' L := by
  obtain ⟨hnd, hall⟩ := hs.df
  rw [hd] at hnd hall
  obtain ⟨r, rfl, h1, h2, h3⟩ := hall d (by simp)
  have h2' : w.heap[r]? = some (.deferred (some [])) := h2
  obtain ⟨w', hw'⟩ : ∃ w', w.putObj r (.deferred none) = w' := ⟨_, rfl⟩
  refine ⟨r, w', rfl, by rw [← hw']; exact run_takeDeferred h2', ?_⟩
  have hother : ∀ b, b ≠ r → w'.heap[b]? = w.heap[b]? := fun b hb => by rw [← hw']; exact World.putObj_heap_other hb
  have hsz : w'.heap.size = w.heap.size := by rw [← hw']; simp
  have hS : Shut (envOf w (full h s) L) (envOf w' (full h s) L) r :=
    ⟨rfl, rfl, rfl, rfl, by rw [← hw']; rfl, by rw [← hw']; rfl, by rw [← hw']; rfl, hsz, hother, ⟨_, h2⟩, h3⟩
  refine ⟨⟨fun id k hk => (hs.hr.blk id k hk).shut hS (fun hl b hb e => h3 ⟨id, k, hk, hl, by rw [← e]; exact hb⟩), hs.hr.inj⟩, fun i v hi => (hs.tr i v hi).shut hS, ⟨(List.nodup_cons.1 hnd).2, fun d hd' => ?_⟩, hs.nle, hs.sz, ?_, fun id hid hn' => ?_⟩
  · obtain ⟨r', e1, e2, e3, e4⟩ := hall d (List.mem_cons_of_mem _ hd')
    refine ⟨r', e1, e2, ?_, e4⟩
    rw [← e3]
    refine hother r' (fun e => ?_)
    subst e
    rw [e1] at hd'
    exact (List.nodup_cons.1 hnd).1 hd'
  · have he := hs.ext
    exact ⟨by rw [← he.os]; exact hS.os, by rw [← he.tape]; exact hS.tape, by rw [← he.output]; exact hS.output, by show w0.heap.size ≤ w'.heap.size; rw [hsz]; exact he.size,
      fun b hb hO => ⟨(hother b (fun e => by subst e; exact absurd hb (by show ¬ b < w0.heap.size; omega))).trans (he.keep b hb hO).1, (he.keep b hb hO).2⟩, he.le, he.loc, he.lv⟩
  · obtain ⟨k1, k2⟩ := hs.same id hid hn'
    refine ⟨k1, fun hl b hb => (hother b (fun e => ?_)).trans (k2 hl b hb)⟩
    subst e
    obtain ⟨x, hx, lx⟩ := hlive_all h s id hid hn' hl
    exact h3 ⟨id, x, hx, lx, by rw [k1]; exact hb⟩

/-- A function's marks are come to, one by one. -/
theorem leaves_ok {n : Nat} {fn : Func} {R : Ending → World → Prop} (hn : w0.heap.size ≤ n0) : ∀ (ds : List Deferred) (a : Act) (w : World), a.defers = ds → SR n0 w0 L0 h nt s a w L →
    (∀ w', SR n0 w0 L0 h nt s { a with defers := [] } w' L → ∃ v, (results fn a.tmps).run P w' = .ok v w' ∧ R (.returned v) w') → LeavesInM Fence.wide n P fn a.tmps R ds .returning w
  | [], a, w, hd, hs, hf => by
    have : { a with defers := [] } = a := by cases a; simp at hd; subst hd; rfl
    rw [this] at hf
    exact hf w hs
  | d :: ds, a, w, hd, hs, hf => by
    obtain ⟨r, w', h1, h2, h3⟩ := hs.shut (P := P) hn hd
    exact ⟨by simp, .inl ⟨r, w', h1, h2, leaves_ok hn ds { a with defers := ds } w' rfl h3 hf⟩⟩
end
end Go.AM
end
section
set_option linter.unusedSimpArgs false
set_option linter.unusedVariables false
namespace Go.AM
open Go

def cRV (P : Program) : ResultVar → Option RV
  | .tmp t => some (.tmp t)
  | .cell a t => match aggT P t, szT P t with
    | some g, some n => if g = true ∨ n = 1 then some (.cell a g n) else none
    | _, _ => none

def cRVs (P : Program) : List ResultVar → Option (List RV)
  | [] => some []
  | x :: xs => match cRV P x, cRVs P xs with
    | some y, some ys => some (y :: ys)
    | _, _ => none

def cFunc (P : Program) (f : FuncId) (esc : Bool) (hints : List (List Nat)) : Option IFunc :=
  match P.funcs[f]? with
  | some fn => match fn.body with
    | some c => if (fn.name == "runtime.NumGoroutine") = false then
        match cCode P fn.ntmps true c hints, cRVs P fn.results.toList with
        | some (ic, []), some rs => some ⟨fn.params.size + fn.nfree, fn.ntmps, rs, esc, ic⟩
        | _, _ => none
      else none
    | none => none
  | none => none

section
variable {n0 : Nat} {P : Program} {w w0 : World} {L L0 : Nat → Lc} {h : List Blk} {nt : Nat} {s : St} {a : Act}

def rvSem (tmps : Array Value) : ResultVar → Sem Value
  | .tmp t => pure (tmps.getD t undef)
  | .cell a t => do loadVar t (← asAddr (tmps.getD a undef))

theorem run_mapM_list (f : ResultVar → Sem Value) (P : Program) (w : World) : ∀ (l : List ResultVar) (vs : List Value), l.length = vs.length → (∀ (j : Nat) (x : ResultVar) (v : Value), l[j]? = some x → vs[j]? = some v → (f x).run P w = .ok v w) →
    (l.mapM f).run P w = .ok vs w
  | [], vs, hl, hh => by
    have : vs = [] := by cases vs <;> simp at hl; rfl
    subst this; simp
  | x :: l, vs, hl, hh => by
    cases vs with
    | nil => simp at hl
    | cons v vs =>
      have h1 := hh 0 x v rfl rfl
      have h2 := run_mapM_list f P w l vs (by simpa using hl) (fun j y u hy hu => hh (j + 1) y u (by simpa using hy) (by simpa using hu))
      simp [List.mapM_cons, h1, h2]

theorem run_results {fn : Func} {tmps : Array Value} {P : Program} {w : World} {vs : List Value} (hl : fn.results.toList.length = vs.length)
    (hh : ∀ (j : Nat) (x : ResultVar) (v : Value), fn.results.toList[j]? = some x → vs[j]? = some v → (rvSem tmps x).run P w = .ok v w) :
    (results fn tmps).run P w = .ok (if hs : vs.toArray.size = 1 then vs.toArray[0] else .tuple vs.toArray) w := by
  have h1 := run_mapM_list (rvSem tmps) P w fn.results.toList vs hl hh
  have h2 : (fn.results.mapM (rvSem tmps)).run P w = .ok vs.toArray w := by
    rw [Array.mapM_eq_mapM_toList]
    simp [h1]
  unfold results
  have e : (fun x => match x with
    | ResultVar.tmp t => pure (tmps.getD t undef)
    | ResultVar.cell a t => do loadVar t (← asAddr (tmps.getD a undef)) : ResultVar → Sem Value) = rvSem tmps := by
      funext x; cases x <;> rfl
  rw [Sem.run_bind]
  refine Eq.trans (congrArg (fun q => Result.andThen (Sem.run P q w) _) (congrArg (fun f => Array.mapM f fn.results) e)) ?_
  rw [h2]
  rfl

theorem rv_ok (hs : SR n0 w0 L0 h nt s a w L) {x : ResultVar} {y : RV} {v : AV} (hc : cRV P x = some y) (he : rvV h s y = some v) :
    ∃ cv, AR (envOf w (full h s) L) v cv ∧ (rvSem a.tmps x).run P w = .ok cv w := by
  cases x with
  | tmp t =>
    cases hc
    exact ⟨_, hs.tr t v he, by simp [rvSem]⟩
  | cell t ty =>
    simp only [cRV] at hc
    split at hc
    case h_2 => cases hc
    rename_i g n hg hn
    split at hc
    case isFalse => cases hc
    rename_i hgn
    cases hc
    simp only [rvV] at he
    split at he
    case h_2 => cases he
    rename_i v' rs hv
    cases he
    obtain ⟨cv, h1, h2⟩ := y_load (P := P) hs.hr hs.tr (dst := none) (ty := ty) (pos := "") (after := #[]) (gd := none) (p := .tmp t) hg hn hgn rfl hv
    refine ⟨cv, h1, ?_⟩
    have h3 := h2 w (fun _ => .self _ _)
    simp only [execOp, Instr.loadAt, Sem.run_bind] at h3
    simp only [rvSem, Sem.run_bind]
    have e : a.eval (.tmp t) = a.tmps.getD t undef := rfl
    rw [e] at h3
    cases hq : a.tmps.getD t undef with
    | pointer A =>
      cases A with
      | none => rw [hq] at h3; simp [Instr.sureAddr] at h3
      | some A =>
        rw [hq] at h3
        simp [Instr.sureAddr] at h3
        simp [asAddr]
        generalize (loadVar ty A).run P w = r at h3 ⊢
        cases r <;> simp at h3 ⊢
        exact h3
    | _ => rw [hq] at h3; simp [Instr.sureAddr] at h3

theorem rvs_ok (hs : SR n0 w0 L0 h nt s a w L) : ∀ (l : List ResultVar) (rs : List RV) (vs : List AV), cRVs P l = some rs → rvVs h s rs = some vs →
    ∃ cs : List Value, l.length = cs.length ∧ vs.length = cs.length ∧ (∀ (j : Nat) (x : ResultVar) (v : Value), l[j]? = some x → cs[j]? = some v → (rvSem a.tmps x).run P w = .ok v w) ∧
      ∀ (j : Nat) (x : AV) (v : Value), vs[j]? = some x → cs[j]? = some v → AR (envOf w (full h s) L) x v
  | [], rs, vs, hc, he => by
    cases hc
    simp only [rvVs] at he
    cases he
    exact ⟨[], rfl, rfl, fun j x v hx => by simp at hx, fun j x v hx => by simp at hx⟩
  | x :: l, rs, vs, hc, he => by
    simp only [cRVs] at hc
    split at hc
    case h_2 => cases hc
    rename_i y ys hy hys
    cases hc
    simp only [rvVs] at he
    split at he
    case h_2 => cases he
    rename_i v vs' hv hvs
    cases he
    obtain ⟨cv, h1, h2⟩ := rv_ok hs hy hv
    obtain ⟨cs, k1, k2, k3, k4⟩ := rvs_ok hs l ys vs' hys hvs
    refine ⟨cv :: cs, by simp [k1], by simp [k2], fun j x v hx hv => ?_, fun j x v hx hv => ?_⟩
    · cases j with
      | zero => simp at hx hv; subst hx hv; exact h2
      | succ j => exact k3 j x v (by simpa using hx) (by simpa using hv)
    · cases j with
      | zero => simp at hx hv; subst hx hv; exact h1
      | succ j => exact k4 j x v (by simpa using hx) (by simpa using hv)

theorem tupV_ok {E : Env} {vs : List AV} {cs : List Value} (hl : vs.length = cs.length) (hh : ∀ (j : Nat) (x : AV) (v : Value), vs[j]? = some x → cs[j]? = some v → AR E x v) :
    AR E (tupV vs) (if hs : cs.toArray.size = 1 then cs.toArray[0] else .tuple cs.toArray) := by
  match vs, cs, hl with
  | [], [], _ => exact .tup rfl (fun j x v hx => by simp at hx)
  | [x], [v], _ => exact hh 0 x v rfl rfl
  | x :: y :: vs, v :: u :: cs, hl =>
    have : ¬ (v :: u :: cs).toArray.size = 1 := by simp
    rw [dif_neg this]
    exact .tup (by simpa using hl) (fun j p q hp hq => hh j p q hp (by simpa using hq))

theorem applyM_mem {H : List Blk} {i : Nat} {k : Blk} : ∀ (m : List (Nat × Blk)), True → i ∈ keysM m → (applyM H m)[i]? = some k → ∃ p ∈ m, p.2 = k
  | [], _, hi, _ => by cases hi
  | (a, v) :: t, _, hi, hk => by
    simp only [applyM] at hk
    by_cases e : a = i
    · subst e
      have hlt : a < (applyM H t).length := by have := (List.getElem?_eq_some_iff.1 hk).1; simpa using this
      rw [List.getElem?_set_self hlt] at hk
      exact ⟨(a, v), by simp, Option.some.inj hk⟩
    · rw [List.getElem?_set_ne e] at hk
      simp only [keysM, List.map_cons, List.mem_cons] at hi
      obtain ⟨p, h1, h2⟩ := applyM_mem t trivial (hi.resolve_left (fun h => e h.symm)) hk
      exact ⟨p, by simp [h1], h2⟩

theorem initT_look : ∀ (k : Nat) (args : List AV) (i : Nat) (v : AV), look (initT k args) i = some v → ∃ j, i = k + j ∧ args[j]? = some v
  | _, [], _, _, h => by cases h
  | k, x :: r, i, v, h => by
    simp only [initT, look] at h
    split at h
    · rename_i e; cases h; exact ⟨0, by omega, rfl⟩
    · obtain ⟨j, h1, h2⟩ := initT_look (k + 1) r i v h
      exact ⟨j + 1, by omega, by simpa using h2⟩

/-- What a function answers, it does. -/
theorem evBody_ok {E : FnS} (hE : FnOk P E) (hm : P.follows .mixedOrders = true) {f : FuncId} {esc : Bool} {hints : List (List Nat)} {F : IFunc} (hF : cFunc P f esc hints = some F)
    {args : List AV} {H : List Blk} {r : Res} (he : evBody E F args H = some r) : SndF P f args H r := by
  unfold cFunc at hF
  split at hF
  case h_2 => cases hF
  rename_i fn hfn
  split at hF
  case h_2 => cases hF
  rename_i c hbody
  split at hF
  case isFalse => cases hF
  rename_i hname
  split at hF
  case h_2 => cases hF
  rename_i ic rs hic hrs
  cases hF
  intro w L xs hr ha
  refine .inl ⟨?_, ?_⟩
  · simp [callFunc, hfn, hname, hbody]
    simpa using hname
  refine callsIn_wide.1 (callsIn_of_wp_marks (n := 0) hfn hbody trivial ?_)
  unfold evBody at he
  simp only at he
  split at he
  case isFalse => cases he
  rename_i hlen
  have hfull : full H ⟨initT 0 args, [], []⟩ = H := by simp [full, applyM]
  have hs0 : SR w.heap.size w L H fn.ntmps ⟨initT 0 args, [], []⟩ { tmps := xs ++ Array.replicate (fn.ntmps - xs.size) undef, defers := [] } w L := by
    refine ⟨by rw [hfull]; exact hr, ?_, DfOk.nil _ _, Nat.le_refl _, ?_, by rw [hfull]; exact .refl _, fun _ _ _ => ⟨rfl, fun _ _ _ => rfl⟩⟩
    · rw [hfull]
      intro i v hv
      obtain ⟨j, h1, h2⟩ := initT_look 0 args i v hv
      have : i = j := by omega
      subst this
      have hlt : i < xs.size := by rw [← ha.1]; exact (List.getElem?_eq_some_iff.1 h2).1
      refine ha.2 i v _ h2 ?_
      simp [Array.getD_eq_getD_getElem?, Array.getElem?_append_left hlt, hlt]
    · have := ha.1
      simp; omega
  have go : ∀ (e : Ex) (s : St), evCode E H ic ⟨initT 0 args, [], []⟩ = some (e, s) → (e = .ret ∨ e = .normal) → finish H ⟨fn.params.size + fn.nfree, fn.ntmps, rs, esc, ic⟩ s = some r →
      c.wpIn Fence.wide 0 P (bodyPostM Fence.wide 0 P fn fun e w' => ∃ v, e = .returned v ∧ ∃ L', AR (envOf w' (applyM H r.m ++ r.o) L') r.r v ∧ HR w' (applyM H r.m ++ r.o) L' ∧ Ext (envOf w H L) (envOf w' (applyM H r.m ++ r.o) L') ∧ Same w w' H L L' (keysM r.m)) { tmps := xs ++ Array.replicate (fn.ntmps - xs.size) undef, defers := [] } w := by
    intro e s hev hex hfin
    refine wpIn_mono (evCode_ok hE hm (ro := none) (fn := 0) (top := true) (fun _ => rfl) c hints ic [] hic _ _ w L e s hs0 hev) fun e' a' w0' ⟨k1, L', k2⟩ => ?_
    have post : ∀ w', SR w.heap.size w L H fn.ntmps s { a' with defers := [] } w' L' → ∃ v, (results fn a'.tmps).run P w' = .ok v w' ∧ ∃ v', Ending.returned v = .returned v' ∧ ∃ L', AR (envOf w' (applyM H r.m ++ r.o) L') r.r v' ∧ HR w' (applyM H r.m ++ r.o) L' ∧ Ext (envOf w H L) (envOf w' (applyM H r.m ++ r.o) L') ∧ Same w w' H L L' (keysM r.m) := by
      intro w' k2
      unfold finish at hfin
      split at hfin
      case h_2 => cases hfin
      rename_i vs hvs
      obtain ⟨cs, j1, j2, j3, j4⟩ := rvs_ok k2 _ _ _ hrs hvs
      refine ⟨_, run_results j1 j3, _, rfl, L', ?_⟩
      simp only at hfin
      split at hfin
      · cases hfin
        exact ⟨tupV_ok j2 j4, k2.hr, k2.ext, k2.same⟩
      · split at hfin
        case h_2 => cases hfin
        rename_i vs' hvs'
        split at hfin
        case isFalse => cases hfin
        rename_i hall
        cases hfin
        simp only [List.append_nil]
        obtain ⟨i1, i2⟩ := frz3_ok vs vs' hvs'
        refine ⟨tupV_ok (by omega) (fun j x v hx hv => ?_), ?_, ?_, k2.same⟩
        · obtain ⟨y, hy, hz⟩ := i2 j x hx
          exact frz2_ok k2.hr hz (j4 j y v hy hv)
        · refine HR.drop (o := s.o) k2.hr (fun i k hk => ?_)
          by_cases hi : i ∈ keysM s.m
          · obtain ⟨p, hp, rfl⟩ := applyM_mem _ trivial hi hk
            exact .inl (by rw [applyM_length]; exact List.all_eq_true.1 hall p hp)
          · have hk' : H[i]? = some k := by rw [← applyM_get_ne _ _ _ hi]; exact hk
            obtain ⟨q1, q2⟩ := k2.same i (List.getElem?_eq_some_iff.1 hk').1 hi
            exact .inr ((hr.blk i k hk').mono (ext_drop k2.ext (by rw [applyM_length]; exact Nat.le_refl _)) q1 (fun hl b hb => q2 ⟨k, hk', hl⟩ b hb))
        · exact ext_drop k2.ext (by rw [applyM_length]; exact Nat.le_refl _)
    subst k1
    rcases hex with rfl | rfl
    · exact leaves_ok (Nat.le_refl _) _ a' w0' rfl k2 post
    · exact leaves_ok (Nat.le_refl _) _ a' w0' rfl k2 post
  split at he
  · rename_i s hev; exact go _ s hev (.inl rfl) he
  · rename_i s hev; exact go _ s hev (.inr rfl) he
  · cases he

end
end Go.AM
end
section
set_option linter.unusedSimpArgs false
set_option linter.unusedVariables false
namespace Go.AM
open Go

/-- A round's codes, compiled. -/
def RoundC (P : Program) (R : IRound) : Prop :=
  R.rd.ps.toList = R.ps ∧ (R.ps.all fun p => decide (p < R.rd.nt)) = true ∧ (∃ hs, cCode P R.rd.nt false R.rd.assign hs = some (R.as, [])) ∧ ∃ hs, cCode P R.rd.nt false R.rd.body hs = some (R.body, [])

theorem putPs_ok {E : Env} : ∀ (ps : List Nat) (vs : List AV) (xs : List Value) (t : List (Nat × AV)) (tmps : Array Value) (nt : Nat), tmps.size = nt → (∀ p ∈ ps, p < nt) → ps.length = vs.length → vs.length = xs.length →
    (∀ (j : Nat) (a : AV) (v : Value), vs[j]? = some a → xs[j]? = some v → AR E a v) → (∀ (i : Nat) (v : AV), look t i = some v → AR E v (tmps.getD i Go.undef)) →
    ((ps.zip xs).foldl (fun tmps (p : Nat × Value) => tmps.setIfInBounds p.1 p.2) tmps).size = nt ∧
    ∀ (i : Nat) (v : AV), look (putPs ps vs t) i = some v → AR E v (((ps.zip xs).foldl (fun tmps (p : Nat × Value) => tmps.setIfInBounds p.1 p.2) tmps).getD i Go.undef)
  | [], vs, xs, t, tmps, nt, hsz, hp, h1, h2, ha, ht => by
    cases vs with
    | nil => exact ⟨hsz, ht⟩
    | cons v vs => simp at h1
  | p :: ps, vs, xs, t, tmps, nt, hsz, hp, h1, h2, ha, ht => by
    cases vs with
    | nil => simp at h1
    | cons v vs =>
      cases xs with
      | nil => simp at h2
      | cons x xs =>
        simp only [putPs, List.zip_cons_cons, List.foldl_cons]
        refine putPs_ok ps vs xs ((p, v) :: t) (tmps.setIfInBounds p x) nt (by simpa using hsz) (fun q hq => hp q (List.mem_cons_of_mem _ hq)) (by simpa using h1) (by simpa using h2)
          (fun j a u hj hu => ha (j + 1) a u (by simpa using hj) (by simpa using hu)) (fun i u hi => ?_)
        simp only [look] at hi
        have hpl : p < tmps.size := by rw [hsz]; exact hp p (by simp)
        split at hi
        · rename_i e
          subst e
          cases hi
          have := ha 0 v x rfl rfl
          simpa [hpl] using this
        · rename_i e
          have : (tmps.setIfInBounds p x).getD i Go.undef = tmps.getD i Go.undef := by
            simp [Array.getD_eq_getD_getElem?, Array.getElem?_setIfInBounds, e]
          rw [this]
          exact ht i u hi

theorem foldl_zip_list (ps : Array Tmp) (xs : Array Value) (tmps : Array Value) :
    (ps.zip xs).foldl (fun tmps (t, a) => tmps.setIfInBounds t a) tmps = (ps.toList.zip xs.toList).foldl (fun tmps (p : Nat × Value) => tmps.setIfInBounds p.1 p.2) tmps := by
  rw [← Array.foldl_toList, Array.toList_zip]

theorem jump_of (e : Ex) : (jmpO e).map jumpC = (match e with | .normal => none | .ret => some Code.ret | .exit i => some (.exit i)) := by cases e <;> rfl

/-- One block of the calls' own turns; all else stays. -/
theorem turn_obj {w w' : World} {H : List Blk} {L : Nat → Lc} (hr : HR w H L) {id b : Nat} {k k' : Blk} {o : Obj} (hid : H[id]? = some k) (hl : k.live = true) (hb : (L id).blk = some b) (hlt : b < w.heap.size)
    (hw : w.putObj b o = w') (hk : Ext (envOf w H L) (envOf w' (H.set id k') (updL L id (L id))) → HB (envOf w' (H.set id k') (updL L id (L id))) id k') :
    HR w' (H.set id k') (updL L id (L id)) ∧ Ext (envOf w H L) (envOf w' (H.set id k') (updL L id (L id))) ∧ Same w w' H L (updL L id (L id)) [id] := by
  have hother : ∀ b', b' ≠ b → w'.heap[b']? = w.heap[b']? := fun b' hb' => by rw [← hw]; exact World.putObj_heap_other hb'
  obtain ⟨t1, t2⟩ := hr.turn (w' := w') (k' := k') hid hl (L id) (by rw [← hw]; rfl) (by rw [← hw]; rfl) (by rw [← hw]; rfl) (by rw [← hw]; simp)
    (fun b' _ hne => hother b' (fun e => hne (by rw [e]; exact hb))) (.refl _ _) (fun b' hb' => .inl hb') hk
  refine ⟨t1, t2, fun j hj hne => ⟨updL_ne _ _ _ (by simpa using hne), fun ⟨x', hx', lx⟩ b' hb' => hother b' (fun e => ?_)⟩⟩
  subst e
  exact hne (by simp [hr.inj j id b' x' _ hx' hid lx hl hb' hb])

theorem updL_id (L : Nat → Lc) (id : Nat) : updL L id (L id) = L := by
  funext i
  by_cases e : i = id
  · subst e; rw [updL_self]
  · rw [updL_ne _ _ _ e]

theorem evRound_ok {P : Program} {E : FnS} (hE : FnOk P E) (hm : P.follows .mixedOrders = true) {R : IRound} (hR : RoundC P R) {vs : List AV} {id : Nat} {H : List Blk} {r : Res} (he : evRound E R vs id H = some r) : SndY P (vs ++ [.yv id]) H r := by
  intro vs' id' heq w L xs b hr ha hb
  obtain ⟨rfl, hid'⟩ := List.append_inj' heq rfl
  have : id = id' := by simpa using hid'
  subst this
  obtain ⟨rd0, rps, ras, rbody⟩ := R
  obtain ⟨hps, hpl, ⟨hs1, hc1⟩, hs2, hc2⟩ := hR
  simp only at hps hpl hc1 hc2
  unfold evRound at he
  split at he
  case h_2 => cases he
  rename_i rd t hH
  split at he
  case isFalse => cases he
  rename_i hcond
  obtain ⟨rfl, hlen⟩ := hcond
  simp only at he hlen
  have hidlt : id < H.length := (List.getElem?_eq_some_iff.1 hH).1
  obtain ⟨z1, b', rec, z2, z3, y1, y2, y3, y4, y5, y6⟩ := hr.blk id _ hH
  have hbb : b' = b := by have : (L id).blk = some b' := z2; rw [hb] at this; exact (Option.some.inj this).symm
  subst hbb
  have hz3 : w.heap[b']? = some (.loop rec) := z3
  have hst : (L id).st = true := z1
  have hblt : b' < w.heap.size := (Array.getElem?_eq_some_iff.1 hz3).1
  have hl : ∀ i, i ∈ [id] → Live H i := fun i hi => by simp at hi; subst hi; exact ⟨_, hH, rfl⟩
  have hr1 := hr.hide hl
  have henv : envOf w (hideB [id] H) L = envOf w H L := env_hide hl
  have hget : (hideB [id] H)[id]? = some .hid := by rw [hideB_get]; simp [hH]
  have hlenH : (hideB [id] H).length = H.length := hideB_length _ _
  -- what is laid
  unfold bodyRd at he
  split at he
  case h_2 => cases he
  rename_i t1 hev1
  unfold endRd at he
  dsimp only at he
  split at he
  case h_2 => cases he
  rename_i e s hev2
  split at he
  case isFalse => cases he
  rename_i hall
  cases he
  have hnk : id ∉ keysM s.m := fun hk => by
    obtain ⟨p, hp, e⟩ := List.mem_map.1 hk
    have := List.all_eq_true.1 hall p hp
    simp [e] at this
  have hput := putPs_ok (E := envOf w H L) rps vs xs.toList t rec.tmps rd.nt y4 (fun p hp => by simpa using List.all_eq_true.1 hpl p hp) hlen.symm (by have := ha.1; simpa using this)
    (fun j a v hj hv => ha.2 j a v hj (by simpa using hv)) y6
  have hT : (rec.params.zip xs).foldl (fun tmps (t, a) => tmps.setIfInBounds t a) rec.tmps = (rps.zip xs.toList).foldl (fun tmps (p : Nat × Value) => tmps.setIfInBounds p.1 p.2) rec.tmps := by rw [foldl_zip_list, y1, hps]
  refine ⟨rec.fn, _, rec.assign, rec.body, run_yield hz3 (by rw [y1]; have := ha.1; have h2 : rd.ps.size = rps.length := by rw [← hps]; simp
                                                             omega), ?_⟩
  rw [hT]
  generalize (rps.zip xs.toList).foldl (fun tmps (p : Nat × Value) => tmps.setIfInBounds p.1 p.2) rec.tmps = T0 at hput
  refine roundIn_of_wpIn trivial ?_
  rw [show Fence.wide.inRound b' = wideR (some b') from rfl]
  have hfull0 : ∀ t, full (hideB [id] H) ⟨t, [], []⟩ = hideB [id] H := fun t => by simp [full, applyM]
  have hS0 : SR 0 w L (hideB [id] H) rd.nt ⟨putPs rps vs t, [], []⟩ { tmps := T0, defers := [] } w L := by
    refine ⟨by rw [hfull0]; exact hr1, ?_, DfOk.nil _ _, Nat.zero_le _, hput.1, by rw [hfull0]; exact .refl _, fun _ _ _ => ⟨rfl, fun _ _ _ => rfl⟩⟩
    rw [hfull0, henv]
    exact hput.2
  rw [y2, y3]
  refine wpIn_mono (evCode_ok hE hm (ro := some b') (fn := 0) (top := false) (fun h => by cases h) rd.assign hs1 ras [] hc1 _ _ w L .normal _ hS0 hev1) fun e' a1 w1 ⟨k1, L1, k2⟩ => ?_
  subst k1
  show ∃ w₂, _ ∧ _
  -- the record is busy
  have hk2hr : HR w1 (hideB [id] H) L1 := by have := k2.hr; rwa [hfull0] at this
  have hext1 : Ext (envOf w (hideB [id] H) L) (envOf w1 (hideB [id] H) L1) := by have := k2.ext; rwa [hfull0] at this
  have hsame1 : Same w w1 (hideB [id] H) L L1 [] := k2.same
  obtain ⟨m1, m2⟩ := hsame1 id (by rw [hlenH]; exact hidlt) (by simp)
  have hliveid : Live (hideB [id] H) id := ⟨_, hget, rfl⟩
  have hw1 : w1.heap[b']? = some (.loop rec) := (m2 hliveid b' hb).trans hz3
  have hb1 : (L1 id).blk = some b' := by rw [m1]; exact hb
  obtain ⟨w2, hw2⟩ : ∃ w2, w1.putObj b' (.loop { rec with state := .busy }) = w2 := ⟨_, rfl⟩
  have hbegin : (Instr.beginRound b').run P w1 = .ok () w2 := by rw [← hw2]; exact run_beginRound hw1 y5.1
  have hblt1 : b' < w1.heap.size := (Array.getElem?_eq_some_iff.1 hw1).1
  have hset0 : (hideB [id] H).set id .hid = hideB [id] H := by
    apply List.ext_getElem?
    intro i
    by_cases e : i = id
    · subst e; rw [List.getElem?_set_self (by rw [hlenH]; exact hidlt), hget]
    · rw [List.getElem?_set_ne (fun h => e h.symm)]
  obtain ⟨t1r, t1e, t1s⟩ := turn_obj hk2hr (k' := .hid) hget rfl hb1 hblt1 hw2 (fun _ b2 hb2 => by
    have h2 : (updL L1 id (L1 id) id).blk = some b2 := hb2
    rw [updL_self, hb1] at h2
    cases h2
    show b' < w2.heap.size
    rw [← hw2]; simpa using hblt1)
  rw [updL_id, hset0] at t1r t1e
  rw [updL_id] at t1s
  have hw2b : w2.heap[b']? = some (.loop { rec with state := .busy }) := by rw [← hw2]; exact World.putObj_heap_same hblt1
  refine ⟨w2, hbegin, ?_⟩
  have hS2 : SR 0 w2 L1 (hideB [id] H) rd.nt ⟨t1, [], []⟩ a1 w2 L1 := by
    refine ⟨by rw [hfull0]; exact t1r, ?_, ?_, Nat.zero_le _, k2.sz, by rw [hfull0]; exact .refl _, fun _ _ _ => ⟨rfl, fun _ _ _ => rfl⟩⟩
    · rw [hfull0]
      have := k2.tr
      rw [hfull0] at this
      exact this.mono t1e
    · rw [hfull0]
      have := k2.df
      rw [hfull0] at this
      exact this.mono t1e
  refine wpIn_mono (evCode_ok hE hm (ro := some b') (fn := 0) (top := false) (fun h => by cases h) rd.body hs2 rbody [] hc2 _ _ w2 L1 e s hS2 hev2) fun e' a3 w3 ⟨q1, L3, q2⟩ => ?_
  subst q1
  obtain ⟨n1, n2⟩ := q2.same id (by rw [hlenH]; exact hidlt) hnk
  have hw3 : w3.heap[b']? = some (.loop { rec with state := .busy }) := (n2 hliveid b' hb1).trans hw2b
  have hb3 : (L3 id).blk = some b' := by rw [n1]; exact hb1
  have hblt3 : b' < w3.heap.size := (Array.getElem?_eq_some_iff.1 hw3).1
  have hfid : (full (hideB [id] H) s)[id]? = some .hid := by rw [full_out _ s (by rw [hlenH]; exact hidlt) hnk]; exact hget
  obtain ⟨w4, hw4⟩ : ∃ w4, w3.putObj b' (.loop { rec with state := if (((jmpO e).map jumpC).isNone) then .ready else .done, pending := (jmpO e).map jumpC }) = w4 := ⟨_, rfl⟩
  have hend : (Instr.endRound b' ((jmpO e).map jumpC)).run P w3 = .ok (.bool ((jmpO e).map jumpC).isNone) w4 := by have := run_endRound (P := P) ((jmpO e).map jumpC) hw3; rw [← hw4]; exact this
  have hw4b : w4.heap[b']? = some (.loop { rec with state := if (((jmpO e).map jumpC).isNone) then .ready else .done, pending := (jmpO e).map jumpC }) := by rw [← hw4]; exact World.putObj_heap_same hblt3
  have hextA : Ext (envOf w H L) (envOf w3 (full (hideB [id] H) s) L3) := by
    rw [← henv]; exact (hext1.trans t1e).trans q2.ext
  obtain ⟨t4r, t4e, t4s⟩ := turn_obj q2.hr (k' := .lp rd t (jmpO e)) hfid rfl hb3 hblt3 hw4 (fun hx => by
    refine ⟨?_, b', _, ?_, hw4b, y1, y2, y3, y4, ?_, fun i v hi => ((y6 i v hi).mono hextA).mono hx⟩
    · show (updL L3 id (L3 id) id).st = true; rw [updL_self, n1, m1]; exact hst
    · show (updL L3 id (L3 id) id).blk = _; rw [updL_self]; exact hb3
    · cases e <;> exact ⟨rfl, rfl⟩)
  rw [updL_id] at t4r t4e t4s
  have hfin : (full (hideB [id] H) s).set id (.lp rd t (jmpO e)) = applyM H ((id, .lp rd t (jmpO e)) :: s.m) ++ s.o := by
    unfold full
    simp only [applyM]
    rw [List.set_append_left _ _ (by rw [applyM_length, hlenH]; exact hidlt)]
    congr 1
    apply List.ext_getElem?
    intro i
    by_cases e : id = i
    · subst e
      rw [List.getElem?_set_self (by rw [applyM_length, hlenH]; exact hidlt), List.getElem?_set_self (by rw [applyM_length]; exact hidlt)]
    · rw [List.getElem?_set_ne e, List.getElem?_set_ne e]
      refine applyM_get_eq _ _ _ _ hlenH (fun _ => ?_)
      rw [hideB_get]; simp [Ne.symm e]
  rw [hfin] at t4r t4e
  have hsame : Same w w4 H L L3 (keysM ((id, .lp rd t (jmpO e)) :: s.m)) := by
    intro j hj hn
    simp only [keysM, List.map_cons, List.mem_cons, not_or] at hn
    obtain ⟨hn1, hn2⟩ := hn
    have hj' : j < (hideB [id] H).length := by rw [hlenH]; exact hj
    have hlj : Live H j → Live (hideB [id] H) j := fun ⟨x, hx, lx⟩ => ⟨x, by rw [hideB_get]; simp [hn1]; exact hx, lx⟩
    obtain ⟨a1, a2⟩ := hsame1 j hj' (by simp)
    obtain ⟨b1, b2⟩ := t1s j hj' (by simpa using hn1)
    obtain ⟨c1, c2⟩ := q2.same j hj' hn2
    obtain ⟨d1, d2⟩ := t4s j (by rw [full_length]; show j < _ + _; omega) (by simpa using hn1)
    refine ⟨c1.trans a1, fun hlv bb hbb => ?_⟩
    have hl1 := hlj hlv
    rw [d2 (hlive_all _ s j hj' hn2 hl1) bb (by rw [c1, a1]; exact hbb), c2 hl1 bb (by rw [a1]; exact hbb), b2 hl1 bb (by rw [a1]; exact hbb), a2 hl1 bb hbb]
  have hres : ∃ v, (Ending.returned (Value.bool ((jmpO e).map jumpC).isNone)) = .returned v ∧ ∃ L', AR (envOf w4 (applyM H ((id, .lp rd t (jmpO e)) :: s.m) ++ s.o) L') (.g (.bool (jmpO e).isNone)) v ∧ HR w4 (applyM H ((id, .lp rd t (jmpO e)) :: s.m) ++ s.o) L' ∧
      Ext (envOf w H L) (envOf w4 (applyM H ((id, .lp rd t (jmpO e)) :: s.m) ++ s.o) L') ∧ Same w w4 H L L' (keysM ((id, .lp rd t (jmpO e)) :: s.m)) := by
    refine ⟨_, rfl, L3, ?_, t4r, hextA.trans t4e, hsame⟩
    have : ((jmpO e).map jumpC).isNone = (jmpO e).isNone := by cases e <;> rfl
    rw [this]
    exact .g (.bool _)
  cases e <;> exact ⟨_, w4, hend, hres⟩
end Go.AM
end
section
set_option linter.unusedSimpArgs false
set_option linter.unusedVariables false
namespace Go.AM
open Go

theorem lim_eq {α : Type} {f : Nat → Option α} (hm : ∀ n m r, n ≤ m → f n = some r → f m = some r) {n : Nat} {r : α} (h : f n = some r) : lim f = some r := by
  unfold lim
  have hx : ∃ n r, f n = some r := ⟨n, r, h⟩
  rw [dif_pos hx]
  obtain ⟨r', hr'⟩ := hx.choose_spec
  rw [hr']
  rcases Nat.le_total n hx.choose with hle | hle
  · rw [← hr']; exact hm _ _ _ hle h
  · have := hm _ _ _ hle hr'; rw [h] at this; exact this.symm

theorem loopF_mono (step : St → Out) (lv : List Nat) : ∀ (n m : Nat) (s : St) (r : Ex × St), n ≤ m → loopF step lv n s = some r → loopF step lv m s = some r
  | 0, _, _, _, _, h => by cases h
  | n + 1, 0, _, _, hle, _ => by omega
  | n + 1, m + 1, s, r, hle, h => by
    simp only [loopF, sk] at h ⊢
    split at h
    · exact loopF_mono step lv n m _ r (by omega) h
    · exact h

theorem loopL_of {step : St → Out} {lv : List Nat} {n : Nat} {s : St} {r : Ex × St} (h : loopF step lv n s = some r) : loopL step lv s = some r :=
  lim_eq (fun n m r hle => loopF_mono step lv n m s r hle) h

theorem sk_inv {x : Out} {k : St → Out} {r : Ex × St} (h : sk x k = some r) : (∃ s, x = some (.normal, s) ∧ k s = some r) ∨ (x = some r ∧ r.1 ≠ .normal) := by
  unfold sk at h
  split at h
  · exact .inl ⟨_, rfl, h⟩
  · rename_i hn
    subst h
    obtain ⟨e, s⟩ := r
    exact .inr ⟨rfl, fun e' => hn s (by rw [← e'])⟩

theorem sk_of {x : Out} {k : St → Out} {r : Ex × St} (h : x = some r) (hn : r.1 ≠ .normal) : sk x k = some r := by
  subst h
  obtain ⟨e, s⟩ := r
  cases e <;> first | exact absurd rfl hn | rfl

/-- A loop is its first round, and the loop. -/
theorem loopL_eq (step : St → Out) (lv : List Nat) (s : St) : loopL step lv s = sk (step s) fun s' => loopL step lv (s'.kp lv) := by
  apply Option.ext
  intro r
  constructor
  · intro h
    obtain ⟨n, hn⟩ := lim_some h
    cases n with
    | zero => cases hn
    | succ n =>
      simp only [loopF] at hn
      rcases sk_inv hn with ⟨s1, h1, h2⟩ | ⟨h1, h2⟩
      · rw [h1]; exact loopL_of h2
      · exact sk_of h1 h2
  · intro h
    rcases sk_inv h with ⟨s1, h1, h2⟩ | ⟨h1, h2⟩
    · obtain ⟨n, hn⟩ := lim_some h2
      exact loopL_of (n := n + 1) (by simp only [loopF, sk, h1]; exact hn)
    · exact loopL_of (n := 1) (by simp only [loopF]; exact sk_of h1 h2)

/-! ### An answer hangs on few answers -/
abbrev Qs := List ((FuncId × List AV × List Blk) × Res)

def QS (E : FnS) (l : Qs) : Prop := ∀ q, q ∈ l → E q.1.1 q.1.2.1 q.1.2.2 = some q.2

theorem QS.left {E : FnS} {l l' : Qs} (h : QS E (l ++ l')) : QS E l := fun q hq => h q (List.mem_append.2 (.inl hq))
theorem QS.right {E : FnS} {l l' : Qs} (h : QS E (l ++ l')) : QS E l' := fun q hq => h q (List.mem_append.2 (.inr hq))
theorem QS.app {E : FnS} {l l' : Qs} (h : QS E l) (h' : QS E l') : QS E (l ++ l') := fun q hq => (List.mem_append.1 hq).elim (h q) (h' q)
theorem QS.nil (E : FnS) : QS E [] := fun _ h => by cases h

/-- What it says holds where as much is answered. -/
def Hangs {α : Type} (E : FnS) (g : FnS → Option α) (r : α) : Prop := ∃ l, QS E l ∧ ∀ E', QS E' l → g E' = some r

theorem Hangs.const {α : Type} {E : FnS} {g : FnS → Option α} {r : α} (h : ∀ E', g E' = some r) : Hangs E g r := ⟨[], QS.nil _, fun E' _ => h E'⟩
theorem Hangs.congr {α β : Type} {E : FnS} {g : FnS → Option α} {g' : FnS → Option β} {x : α} {r : β} (h : Hangs E g x) (hk : ∀ E', g E' = some x → g' E' = some r) : Hangs E g' r :=
  let ⟨l, h1, h2⟩ := h; ⟨l, h1, fun E' h' => hk E' (h2 E' h')⟩
theorem Hangs.bind {α β γ : Type} {E : FnS} {g : FnS → Option α} {g2 : FnS → Option β} {g' : FnS → Option γ} {x : α} {y : β} {r : γ} (h : Hangs E g x) (h2 : Hangs E g2 y)
    (hk : ∀ E', g E' = some x → g2 E' = some y → g' E' = some r) : Hangs E g' r :=
  let ⟨l, h1, h1'⟩ := h; let ⟨l', h3, h3'⟩ := h2; ⟨l ++ l', h1.app h3, fun E' h' => hk E' (h1' E' h'.left) (h3' E' h'.right)⟩

section
variable {E : FnS} {h : List Blk} {nb : Nat} {hd lv : List Nat} {s : St}

theorem evCall_hangs {f : AV} {xs : List AV} {r} (he : evCall E h hd s f xs = some r) : Hangs E (fun E => evCall E h hd s f xs) r := by
  unfold evCall at he
  split at he
  case isFalse => cases he
  rename_i hl
  have key : ∀ (g : FuncId) (ys : List AV), fin h hd s (E g ys (hideB hd (full h s))) = some r → (∀ E' : FnS, evCall E' h hd s f xs = fin h hd s (E' g ys (hideB hd (full h s)))) →
      Hangs E (fun E => evCall E h hd s f xs) r := by
    intro g ys hf hE'
    cases hq : E g ys (hideB hd (full h s)) with
    | none => rw [hq] at hf; cases hf
    | some q =>
      rw [hq] at hf
      refine ⟨[((g, ys, hideB hd (full h s)), q)], fun p hp => by simp at hp; subst hp; exact hq, fun E' h' => ?_⟩
      have := h' _ (List.mem_singleton.2 rfl)
      simp only [hE']
      simp only at this
      rw [this]
      exact hf
  split at he
  · exact key _ _ he fun E' => by simp only [evCall, if_pos hl]
  · exact key _ _ he fun E' => by simp only [evCall, if_pos hl]
  · exact key _ _ he fun E' => by simp only [evCall, if_pos hl]
  · cases he

theorem exOp_hangs {op : AOp} {r} (he : exOp E h nb hd s op = some r) : Hangs E (fun E => exOp E h nb hd s op) r := by
  by_cases hc : ∃ f xs, op = .call f xs
  · obtain ⟨f, xs, rfl⟩ := hc
    simp only [exOp] at he
    split at he
    · rename_i fv vs hf hv
      refine (evCall_hangs he).congr fun E' h' => ?_
      simp only [exOp, hf, hv]; exact h'
    · cases he
  · refine Hangs.const fun E' => ?_
    rw [exOp_other (fun f xs e => hc ⟨f, xs, e⟩)] at he ⊢
    exact he

theorem gdo_hangs {α : Type} {g : Option (Nat × Bool)} {yes : FnS → St → Option α} {no : St → Option α} {r : α} (hy : ∀ s, yes E s = some r → Hangs E (fun E => yes E s) r) (he : gdo s g (yes E) no = some r) :
    Hangs E (fun E => gdo s g (yes E) no) r := by
  unfold gdo at he
  split at he
  · exact (hy _ he).congr fun E' k => k
  · rename_i g b
    split at he
    · rename_i x hx
      split at he
      · rename_i hxb
        refine (hy _ he).congr fun E' k => ?_
        simp only [gdo, hx, if_pos hxb]; exact k
      · rename_i hxb
        refine Hangs.const fun E' => ?_
        simp only [gdo, hx, if_neg hxb]; exact he
    · rename_i hx
      refine Hangs.const fun E' => ?_
      simp only [gdo, hx]; exact he
    · cases he

theorem evOne_hangs {o : AOper} {r} (he : evOne E h nb hd s o = some r) : Hangs E (fun E => evOne E h nb hd s o) r := by
  unfold evOne at he ⊢
  refine gdo_hangs (yes := fun E s => ob (exOp E h nb hd s o.op) fun p => some (p.2.1.put o.d p.1, p.2.2)) (fun s hs => ?_) he
  obtain ⟨p, hp, hs⟩ := ob_some hs
  refine (exOp_hangs hp).congr fun E' k => ?_
  simp only [k, ob]; exact hs

theorem evOps_hangs : ∀ (l : List AOper) (s : St) (r : St), evOps E h l s = some r → Hangs E (fun E => evOps E h l s) r
  | [], s, r, he => Hangs.const fun E' => he
  | o :: l, s, r, he => by
    simp only [evOps] at he
    obtain ⟨p, h1, he⟩ := ob_some he
    refine (evOne_hangs h1).bind (evOps_hangs l p.1 r he) fun E' k1 k2 => ?_
    simp only [evOps, k1, ob]
    exact k2

theorem evTree_hangs : ∀ (hd : List Nat) (t : Tree) (s : St) (r : St), evTree E h nb lv hd t s = some r → Hangs E (fun E => evTree E h nb lv hd t s) r
  | hd, .free t, s, r, he => by
    simp only [evTree] at he
    refine (evTree_hangs [] t s r he).congr fun E' k => ?_
    simp only [evTree]
    exact k
  | hd, .hold ts t, s, r, he => by
    simp only [evTree] at he
    refine (evTree_hangs hd t s r he).congr fun E' k => ?_
    simp only [evTree]
    exact k
  | hd, .leaf, s, r, he => Hangs.const fun E' => by simpa only [evTree] using he
  | hd, .take o t, s, r, he => by
    simp only [evTree] at he
    split at he
    case h_2 => cases he
    rename_i s' rs h1
    refine (evTree_hangs hd t s' r he).congr fun E' k => ?_
    simp only [evTree, h1]
    exact k
  | hd, .one o t, s, r, he => by
    simp only [evTree] at he
    split at he
    case h_2 => cases he
    rename_i s' ws h1
    split at he
    case isFalse => cases he
    rename_i hw
    refine (evOne_hangs h1).bind (evTree_hangs hd t s' r he) fun E' k1 k2 => ?_
    simp only [evTree, k1, if_pos hw]
    exact k2
  | hd, .alt o t t2, s, r, he => by
    simp only [evTree] at he
    split at he
    case h_2 => cases he
    rename_i s' ws h1
    split at he
    case isFalse => cases he
    rename_i hw
    split at he
    case h_2 => cases he
    rename_i x y hx hy
    split at he
    case isFalse => cases he
    rename_i hxy
    subst hxy
    refine ((evOne_hangs h1).bind (evTree_hangs hd t s' x hx) (g' := fun E => match evOne E h nb hd s o with
      | some (s', ws) => if (ws.all fun i => !hd.contains i) = true then evTree E h nb lv hd t s' else none
      | none => none) (r := x) fun E' k1 k2 => ?_).bind (evTree_hangs hd t2 s x hy) fun E' k1 k2 => ?_
    · simp only [k1, if_pos hw]; exact k2
    · simp only [evTree]
      split at k1
      case h_2 => cases k1
      rename_i s2 ws2 h2
      split at k1
      case isFalse => cases k1
      rename_i hw2
      simp only [h2, if_pos hw2, k1, k2]
      exact he

theorem evLead_hangs : ∀ (t : Tree) (hd : List Nat) (s : St) (r : St), evLead E h nb lv hd t s = some r → Hangs E (fun E => evLead E h nb lv hd t s) r
  | .take o t, hd, s, r, he => by
    simp only [evLead] at he
    split at he
    case h_2 => cases he
    rename_i s' rs h1
    refine (evLead_hangs t _ s' r he).congr fun E' k => ?_
    simp only [evLead, h1]
    exact k
  | .hold ts t, hd, s, r, he => by
    simp only [evLead] at he
    refine (evLead_hangs t _ s r he).congr fun E' k => ?_
    simp only [evLead]
    exact k
  | .leaf, hd, s, r, he | .free _, hd, s, r, he | .one _ _, hd, s, r, he | .alt _ _ _, hd, s, r, he => by
    simp only [evLead] at he
    split at he
    case isFalse => cases he
    rename_i hl
    refine (evTree_hangs _ _ s r he).congr fun E' k => ?_
    simp only [evLead, if_pos hl]
    exact k

theorem fin_hangs {f : FuncId} {ys : List AV} {H : List Blk} {r} (he : fin h [] s (E f ys H) = some r) : Hangs E (fun E => fin h [] s (E f ys H)) r := by
  cases hq : E f ys H with
  | none => rw [hq] at he; cases he
  | some q =>
    rw [hq] at he
    refine ⟨[((f, ys, H), q)], fun p hp => by simp at hp; subst hp; exact hq, fun E' h' => ?_⟩
    have := h' _ (List.mem_singleton.2 rfl)
    simp only at this
    simp only [this]
    exact he

theorem evOneY_hangs {o : AOper} {r} (he : evOneY E h s o = some r) : Hangs E (fun E => evOneY E h s o) r := by
  obtain ⟨d, gd, op⟩ := o
  by_cases hc : ∃ f xs, op = .ycall f xs
  · obtain ⟨f, xs, rfl⟩ := hc
    simp only [evOneY] at he
    split at he
    · obtain ⟨p, hp, he⟩ := ob_some he
      unfold evYield at hp
      split at hp
      case h_2 => cases hp
      rename_i id vs hf hv
      split at hp
      case h_2 => cases hp
      rename_i rd t hB
      split at hp
      case h_2 => cases hp
      rename_i v s' ws hfin
      cases hp
      refine (fin_hangs hfin).congr fun E' k => ?_
      simp only [evOneY, evYield, hf, hv, hB, k, ob]
      exact he
    · cases he
  · have e : ∀ E, evOneY E h s ⟨d, gd, op⟩ = ob (evOne E h 0 [] s ⟨d, gd, op⟩) fun p => some p.1 := by
      intro E
      cases op <;> first | rfl | exact absurd ⟨_, _, rfl⟩ hc
    rw [e] at he
    obtain ⟨p, hp, he⟩ := ob_some he
    refine (evOne_hangs hp).congr fun E' k => ?_
    simp only [e, k, ob]
    exact he

theorem evOpsY_hangs : ∀ (l : List AOper) (s : St) (r : St), evOpsY E h l s = some r → Hangs E (fun E => evOpsY E h l s) r
  | [], s, r, he => Hangs.const fun E' => he
  | o :: l, s, r, he => by
    simp only [evOpsY] at he
    obtain ⟨p, h1, he⟩ := ob_some he
    refine (evOneY_hangs h1).bind (evOpsY_hangs l p r he) fun E' k1 k2 => ?_
    simp only [evOpsY, k1, ob]
    exact k2

theorem evRf_hangs {rd : RD} {lt : List Nat} {f : Opd} {r} (he : evRf E h lv rd lt f s = some r) : Hangs E (fun E => evRf E h lv rd lt f s) r := by
  unfold evRf at he
  split at he
  case h_2 => cases he
  rename_i g c caps hf
  split at he
  case h_2 => cases he
  rename_i v s' ws hfin
  refine (fin_hangs hfin).congr fun E' k => ?_
  simp only [evRf, hf, k]
  exact he

theorem evCode_hangs : ∀ (c : IC) (s : St) (r : Ex × St), evCode E h c s = some r → Hangs E (fun E => evCode E h c s) r
  | .skip, s, r, he => Hangs.const fun E' => by simpa only [evCode] using he
  | .exit _, s, r, he => Hangs.const fun E' => by simpa only [evCode] using he
  | .ret, s, r, he => Hangs.const fun E' => by simpa only [evCode] using he
  | .regy lv ops, s, r, he => by
    simp only [evCode] at he
    cases hq : evOpsY E h ops s with
    | none => rw [hq] at he; cases he
    | some s' =>
      rw [hq] at he
      refine (evOpsY_hangs ops s s' hq).congr fun E' k => ?_
      simp only [evCode, k]; exact he
  | .rfun lv rd lt f, s, r, he => by
    simp only [evCode] at he
    refine (evRf_hangs he).congr fun E' k => ?_
    simp only [evCode]; exact k
  | .reg lv ops, s, r, he => by
    simp only [evCode] at he
    cases hq : evOps E h ops s with
    | none => rw [hq] at he; cases he
    | some s' =>
      rw [hq] at he
      refine (evOps_hangs ops s s' hq).congr fun E' k => ?_
      simp only [evCode, k]; exact he
  | .drw lv nb t, s, r, he => by
    simp only [evCode] at he
    cases hq : evLead E h (h.length + s.o.length) lv [] t (pends s nb) with
    | none => rw [hq] at he; cases he
    | some s' =>
      rw [hq] at he
      refine (evLead_hangs t [] _ s' hq).congr fun E' k => ?_
      simp only [evCode, k]; exact he
  | .seq a b, s, r, he => by
    simp only [evCode] at he
    rcases sk_inv he with ⟨s1, h1, h2⟩ | ⟨h1, h2⟩
    · refine (evCode_hangs a s _ h1).bind (evCode_hangs b s1 r h2) fun E' k1 k2 => ?_
      simp only [evCode, sk, k1]; exact k2
    · refine (evCode_hangs a s _ h1).congr fun E' k1 => ?_
      simp only [evCode]; exact sk_of k1 h2
  | .cond lv c a b, s, r, he => by
    simp only [evCode] at he
    split at he
    case h_2 => cases he
    rename_i x hx
    cases x with
    | true =>
      simp only [if_true] at he
      cases hq : evCode E h a s with
      | none => rw [hq] at he; cases he
      | some s' =>
        rw [hq] at he
        refine (evCode_hangs a s s' hq).congr fun E' k => ?_
        simp only [evCode, hx, if_true, k]; exact he
    | false =>
      simp only [Bool.false_eq_true, if_false] at he
      cases hq : evCode E h b s with
      | none => rw [hq] at he; cases he
      | some s' =>
        rw [hq] at he
        refine (evCode_hangs b s s' hq).congr fun E' k => ?_
        simp only [evCode, hx, Bool.false_eq_true, if_false, k]; exact he
  | .block lv id c, s, r, he => by
    simp only [evCode] at he
    cases hq : evCode E h c s with
    | none => rw [hq] at he; cases he
    | some s' =>
      rw [hq] at he
      refine (evCode_hangs c s s' hq).congr fun E' k => ?_
      simp only [evCode, k]; exact he
  | .loop lv _ c, s, r, he => by
    simp only [evCode, loopL] at he
    obtain ⟨n, hn⟩ := lim_some he
    have key : ∀ (n : Nat) (s : St), loopF (fun s => evCode E h c s) lv n s = some r → Hangs E (fun E => loopF (fun s => evCode E h c s) lv n s) r := by
      intro n
      induction n with
      | zero => intro s hh; cases hh
      | succ n ih =>
        intro s hh
        simp only [loopF] at hh
        rcases sk_inv hh with ⟨s1, h1, h2⟩ | ⟨h1, h2⟩
        · refine (evCode_hangs c s _ h1).bind (ih _ h2) fun E' k1 k2 => ?_
          simp only [loopF, sk, k1]; exact k2
        · refine (evCode_hangs c s _ h1).congr fun E' k1 => ?_
          simp only [loopF]; exact sk_of k1 h2
    refine (key n _ hn).congr fun E' k => ?_
    simp only [evCode]
    exact loopL_of k

theorem evBody_hangs {F : IFunc} {args : List AV} {H : List Blk} {r : Res} (he : evBody E F args H = some r) : Hangs E (fun E => evBody E F args H) r := by
  unfold evBody at he
  split at he
  case isFalse => cases he
  rename_i hl
  cases hq : evCode E H F.body ⟨initT 0 args, [], []⟩ with
  | none => rw [hq] at he; cases he
  | some x =>
    rw [hq] at he
    refine (evCode_hangs F.body _ x hq).congr fun E' k => ?_
    simp only [evBody, if_pos hl, k]
    exact he

theorem evRound_hangs {R : IRound} {vs : List AV} {id : Nat} {H : List Blk} {r : Res} (he : evRound E R vs id H = some r) : Hangs E (fun E => evRound E R vs id H) r := by
  unfold evRound at he
  split at he
  case h_2 => cases he
  rename_i rd t hH
  split at he
  case isFalse => cases he
  rename_i hcond
  unfold bodyRd at he
  split at he
  case h_2 => cases he
  rename_i t1 hev1
  unfold endRd at he
  dsimp only at he
  split at he
  case h_2 => cases he
  rename_i e s hev2
  refine (evCode_hangs _ _ _ hev1).bind (evCode_hangs _ _ _ hev2) fun E' k1 k2 => ?_
  simp only [evRound, hH, if_pos hcond, bodyRd, k1, endRd, k2]
  exact he

theorem evRoundA_hangs {R : Option IRound} {as : List AV} {H : List Blk} {r : Res} (he : evRoundA E R as H = some r) : Hangs E (fun E => evRoundA E R as H) r := by
  unfold evRoundA at he
  split at he
  · rename_i R id hl
    refine (evRound_hangs he).congr fun E' k => ?_
    simp only [evRoundA, hl]; exact k
  · cases he

theorem evX_hangs {T : Tab} {f : FuncId} {args : List AV} {H : List Blk} {r : Res} (he : evX T E f args H = some r) : Hangs E (fun E => evX T E f args H) r := by
  by_cases hy : ∃ key as, args = .yk key :: as
  · obtain ⟨key, as, rfl⟩ := hy
    simp only [evX] at he
    refine (evRoundA_hangs he).congr fun E' k => ?_
    simp only [evX]; exact k
  · have e : ∀ E, evX T E f args H = T.X f args H := by
      intro E
      unfold evX
      split
      · exact absurd ⟨_, _, rfl⟩ hy
      · rfl
    rw [e] at he
    exact Hangs.const fun E' => by rw [e]; exact he
end

/-! ### A table -/
/-- What functions of no code of ours answer, they do. -/
def SndX (P : Program) (X : FnS) : Prop := ∀ f args H r, X f args H = some r → SndF P f args H r

structure TabOk (P : Program) (T : Tab) : Prop where
  fn : ∀ f F, T.T f = some F → ∃ esc hints, cFunc P f esc hints = some F
  ex : SndX P T.X
  rd : ∀ key R, T.R key = some R → RoundC P R
  y0 : T.T 0 = none
  mixed : P.follows .mixedOrders = true

theorem evX_ok {P : Program} {T : Tab} (hT : TabOk P T) {E : FnS} (hE : FnOk P E) {f : FuncId} {args : List AV} {H : List Blk} {r : Res} (h : evX T E f args H = some r) :
    SndF P f args H r ∧ ∀ key as, args = .yk key :: as → SndY P as H r := by
  by_cases hy : ∃ key as, args = .yk key :: as
  · obtain ⟨key, as, rfl⟩ := hy
    refine ⟨sndF_yk, fun key' as' e => ?_⟩
    cases e
    simp only [evX] at h
    unfold evRoundA at h
    split at h
    · rename_i R id hR hl
      have := evRound_ok hE hT.mixed (hT.rd key R hR) h
      have e2 : as.dropLast ++ [.yv id] = as := by
        cases as with
        | nil => simp at hl
        | cons a as =>
          rw [List.getLast?_eq_some_getLast (by simp)] at hl
          have := Option.some.inj hl
          rw [← this]
          exact List.dropLast_concat_getLast (by simp)
      rwa [e2] at this
    · cases h
  · have e : evX T E f args H = T.X f args H := by
      unfold evX
      split
      · exact absurd ⟨_, _, rfl⟩ hy
      · rfl
    rw [e] at h
    exact ⟨hT.ex f args H r h, fun key as e => absurd ⟨key, as, e⟩ hy⟩

theorem evF_ok {P : Program} {T : Tab} (hT : TabOk P T) : ∀ n, FnOk P (evF T n)
  | 0 => fun f args H r h => by cases h
  | n + 1 => fun f args H r h => by
    simp only [evF] at h
    split at h
    · rename_i F hF
      obtain ⟨esc, hints, hc⟩ := hT.fn f F hF
      exact ⟨evBody_ok (evF_ok hT n) hT.mixed hc h, fun key as e _ => by subst e; rw [hT.y0] at hF; cases hF⟩
    · obtain ⟨k1, k2⟩ := evX_ok hT (evF_ok hT n) h
      exact ⟨k1, fun key as _ e => k2 key as e⟩

theorem evF_step (T : Tab) : ∀ n f args H r, evF T n f args H = some r → evF T (n + 1) f args H = some r
  | 0, _, _, _, _, h => by cases h
  | n + 1, f, args, H, r, h => by
    simp only [evF] at h ⊢
    split at h
    · rename_i F hF
      obtain ⟨l, h1, h2⟩ := evBody_hangs h
      exact h2 _ fun q hq => evF_step T n _ _ _ _ (h1 q hq)
    · obtain ⟨l, h1, h2⟩ := evX_hangs h
      exact h2 _ fun q hq => evF_step T n _ _ _ _ (h1 q hq)

theorem evF_mono (T : Tab) {n m : Nat} (hle : n ≤ m) {f args H r} (h : evF T n f args H = some r) : evF T m f args H = some r := by
  induction hle with
  | refl => exact h
  | step _ ih => exact evF_step T _ _ _ _ _ ih

theorem EvF_of {T : Tab} {n : Nat} {f args H r} (h : evF T n f args H = some r) : EvF T f args H = some r := lim_eq (fun n m r hle h => evF_mono T hle h) h

theorem EvF_ok {P : Program} {T : Tab} (hT : TabOk P T) : FnOk P (EvF T) := fun f args H r h => by
  obtain ⟨n, hn⟩ := lim_some h
  exact evF_ok hT n f args H r hn

/-- What hangs on all depths hangs on one. -/
theorem hangs_at {T : Tab} {l : Qs} (h1 : QS (EvF T) l) : ∃ n, QS (evF T n) l := by
  induction l with
  | nil => exact ⟨0, QS.nil _⟩
  | cons q l ih =>
    obtain ⟨n, hn⟩ := ih fun q hq => h1 q (List.mem_cons_of_mem _ hq)
    obtain ⟨m, hm⟩ := lim_some (h1 q (List.mem_cons_self ..))
    refine ⟨max n m, fun p hp => ?_⟩
    rcases List.mem_cons.1 hp with rfl | hp
    · exact evF_mono T (Nat.le_max_right ..) hm
    · exact evF_mono T (Nat.le_max_left ..) (hn p hp)

theorem EvF_body {T : Tab} {f : FuncId} {F : IFunc} (hF : T.T f = some F) {args : List AV} {H : List Blk} {r : Res} (h : evBody (EvF T) F args H = some r) : EvF T f args H = some r := by
  obtain ⟨l, h1, h2⟩ := evBody_hangs h
  obtain ⟨n, hn⟩ := hangs_at h1
  refine EvF_of (n := n + 1) ?_
  simp only [evF, hF]
  exact h2 _ hn

theorem EvF_ext {T : Tab} {f : FuncId} (hF : T.T f = none) {args : List AV} (hy : ∀ key as, args ≠ .yk key :: as) {H : List Blk} {r : Res} (h : T.X f args H = some r) : EvF T f args H = some r :=
  EvF_of (n := 1) (by
    simp only [evF, hF]
    unfold evX
    split
    · exact absurd rfl (hy _ _)
    · exact h)

/-- A round, by what it answers. -/
theorem EvF_round {T : Tab} (h0 : T.T 0 = none) {key : Nat} {R : IRound} (hR : T.R key = some R) {vs : List AV} {id : Nat} {H : List Blk} {r : Res} (h : evRound (EvF T) R vs id H = some r) :
    EvF T 0 (.yk key :: (vs ++ [.yv id])) H = some r := by
  obtain ⟨l, h1, h2⟩ := evRound_hangs h
  obtain ⟨n, hn⟩ := hangs_at h1
  refine EvF_of (n := n + 1) ?_
  have e1 : (vs ++ [AV.yv id]).getLast? = some (.yv id) := by simp
  have e2 : (vs ++ [AV.yv id]).dropLast = vs := by simp
  simp only [evF, h0, evX, evRoundA, hR, e1, e2]
  exact h2 _ hn

end Go.AM
end
section
set_option linter.unusedSimpArgs false
set_option linter.unusedVariables false
namespace Go.AM
open Go

mutual
def GV.eqb : GV → GV → Bool
  | .bool a, .bool b => a == b
  | .int k a, .int k' b => decide (k = k') && decide (a = b)
  | .str a, .str b => decide (a = b)
  | .sl n a, .sl m b => n == m && eqbLL a b
  | .nsl, .nsl | .nptr, .nptr | .nmap, .nmap | .nfn, .nfn | .nif, .nif => true
  | .fn f, .fn g => decide (f = g)
  | .ifc t v, .ifc u x => decide (t = u) && GV.eqb v x
  | .sen g t s, .sen g' t' s' => decide (g = g') && decide (t = t') && decide (s = s')
  | _, _ => false
def eqbL : List GV → List GV → Bool
  | [], [] => true
  | a :: as, b :: bs => GV.eqb a b && eqbL as bs
  | _, _ => false
def eqbLL : List (List GV) → List (List GV) → Bool
  | [], [] => true
  | a :: as, b :: bs => eqbL a b && eqbLL as bs
  | _, _ => false
end

mutual
theorem GV.eqb_eq : ∀ a b : GV, GV.eqb a b = true → a = b
  | .bool a, b, h => by cases b <;> simp [GV.eqb] at h; rw [h]
  | .int k a, b, h => by cases b <;> simp [GV.eqb] at h; rw [h.1, h.2]
  | .str a, b, h => by cases b <;> simp [GV.eqb] at h; rw [h]
  | .sl n a, b, h => by
    cases b <;> simp [GV.eqb] at h
    rename_i m b
    rw [h.1, eqbLL_eq a b h.2]
  | .nsl, b, h => by cases b <;> simp [GV.eqb] at h; rfl
  | .nptr, b, h => by cases b <;> simp [GV.eqb] at h; rfl
  | .nmap, b, h => by cases b <;> simp [GV.eqb] at h; rfl
  | .nfn, b, h => by cases b <;> simp [GV.eqb] at h; rfl
  | .nif, b, h => by cases b <;> simp [GV.eqb] at h; rfl
  | .fn f, b, h => by cases b <;> simp [GV.eqb] at h; rw [h]
  | .ifc t v, b, h => by
    cases b <;> simp [GV.eqb] at h
    rename_i u x
    rw [h.1, GV.eqb_eq v x h.2]
  | .sen g t s, b, h => by cases b <;> simp [GV.eqb] at h; rw [h.1.1, h.1.2, h.2]
theorem eqbL_eq : ∀ a b : List GV, eqbL a b = true → a = b
  | [], b, h => by cases b <;> simp [eqbL] at h; rfl
  | a :: as, b, h => by
    cases b <;> simp [eqbL] at h
    rename_i x xs
    rw [GV.eqb_eq a x h.1, eqbL_eq as xs h.2]
theorem eqbLL_eq : ∀ a b : List (List GV), eqbLL a b = true → a = b
  | [], b, h => by cases b <;> simp [eqbLL] at h; rfl
  | a :: as, b, h => by
    cases b <;> simp [eqbLL] at h
    rename_i x xs
    rw [eqbL_eq a x h.1, eqbLL_eq as xs h.2]
end

mutual
def AV.eqb : AV → AV → Bool
  | .g a, .g b => GV.eqb a b
  | .agg a, .agg b => eqbA a b
  | .tup a, .tup b => eqbA a b
  | .cp a, .cp b => eqbL a b
  | .ptr a b, .ptr c d => a == c && b == d
  | .ms a b c d e, .ms a' b' c' d' e' => a == a' && b == b' && c == c' && d == d' && e == e'
  | .rp a b c d e, .rp a' b' c' d' e' => a == a' && b == b' && c == c' && d == d' && e == e'
  | .fv f a, .fv g b => decide (f = g) && eqbA a b
  | .bv f a, .bv g b => decide (f = g) && eqbA a b
  | .ifa t v, .ifa u x => decide (t = u) && AV.eqb v x
  | .mp a, .mp b => a == b
  | .undef, .undef => true
  | _, _ => false
def eqbA : List AV → List AV → Bool
  | [], [] => true
  | a :: as, b :: bs => AV.eqb a b && eqbA as bs
  | _, _ => false
end

mutual
theorem AV.eqb_eq : ∀ a b : AV, AV.eqb a b = true → a = b
  | .g a, b, h => by cases b <;> simp [AV.eqb] at h; rw [GV.eqb_eq _ _ h]
  | .agg a, b, h => by
    cases b <;> simp [AV.eqb] at h
    rename_i b
    rw [eqbA_eq a b h]
  | .tup a, b, h => by
    cases b <;> simp [AV.eqb] at h
    rename_i b
    rw [eqbA_eq a b h]
  | .cp a, b, h => by cases b <;> simp [AV.eqb] at h; rw [eqbL_eq _ _ h]
  | .ptr a c, b, h => by cases b <;> simp [AV.eqb] at h; rw [h.1, h.2]
  | .ms a c d e f, b, h => by cases b <;> simp [AV.eqb] at h; obtain ⟨⟨⟨⟨rfl, rfl⟩, rfl⟩, rfl⟩, rfl⟩ := h; rfl
  | .rp a c d e f, b, h => by cases b <;> simp [AV.eqb] at h; obtain ⟨⟨⟨⟨rfl, rfl⟩, rfl⟩, rfl⟩, rfl⟩ := h; rfl
  | .fv f a, b, h => by
    cases b <;> simp [AV.eqb] at h
    rename_i g b
    rw [h.1, eqbA_eq a b h.2]
  | .bv f a, b, h => by
    cases b <;> simp [AV.eqb] at h
    rename_i g b
    rw [h.1, eqbA_eq a b h.2]
  | .via .., b, h => by cases b <;> simp [AV.eqb] at h
  | .ifa t v, b, h => by
    cases b <;> simp [AV.eqb] at h
    rename_i u x
    rw [h.1, AV.eqb_eq v x h.2]
  | .mp a, b, h => by cases b <;> simp [AV.eqb] at h; rw [h]
  | .undef, b, h => by cases b <;> simp [AV.eqb] at h; rfl
theorem eqbA_eq : ∀ a b : List AV, eqbA a b = true → a = b
  | [], b, h => by cases b <;> simp [eqbA] at h; rfl
  | a :: as, b, h => by
    cases b <;> simp [eqbA] at h
    rename_i x xs
    rw [AV.eqb_eq a x h.1, eqbA_eq as xs h.2]
end

def eqbG : Option GV → Option GV → Bool
  | none, none => true
  | some a, some b => GV.eqb a b
  | _, _ => false
theorem eqbG_eq : ∀ a b, eqbG a b = true → a = b
  | none, none, _ => rfl
  | some a, some b, h => by rw [GV.eqb_eq a b h]
  | none, some b, h => by simp [eqbG] at h
  | some a, none, h => by simp [eqbG] at h
def eqbM : List (GV × Option GV) → List (GV × Option GV) → Bool
  | [], [] => true
  | a :: as, b :: bs => GV.eqb a.1 b.1 && eqbG a.2 b.2 && eqbM as bs
  | _, _ => false

def Blk.eqb : Blk → Blk → Bool
  | .cells a, .cells b => eqbA a b
  | .rows a b c, .rows a' b' c' => a == a' && b == b' && eqbLL c c'
  | .bld T a, .bld T' b => T == T' && eqbA a b
  | .trow T a b c, .trow T' a' b' c' => T == T' && a == a' && b == b' && eqbLL c c'
  | .fro a b c, .fro a' b' c' => a == a' && b == b' && eqbLL c c'
  | .map a, .map b => eqbM a b
  | .gsen t s, .gsen t' s' => decide (t = t') && decide (s = s')
  | .pend, .pend => true
  | .hid, .hid => true
  | _, _ => false

theorem eqbM_eq : ∀ a b, eqbM a b = true → a = b
  | [], b, h => by cases b <;> simp [eqbM] at h; rfl
  | a :: as, b, h => by
    cases b <;> simp [eqbM] at h
    rename_i x xs
    rw [eqbM_eq as xs h.2, Prod.ext (GV.eqb_eq _ _ h.1.1) (eqbG_eq _ _ h.1.2)]

theorem Blk.eqb_eq (a b : Blk) (h : Blk.eqb a b = true) : a = b := by
  cases a <;> cases b <;> simp [Blk.eqb] at h
  · rw [eqbA_eq _ _ h]
  · rw [h.1, eqbA_eq _ _ h.2]
  · rw [h.1.1.1, h.1.1.2, h.1.2, eqbLL_eq _ _ h.2]
  · rw [h.1.1, h.1.2, eqbLL_eq _ _ h.2]
  · rw [h.1.1, h.1.2, eqbLL_eq _ _ h.2]
  · rw [eqbM_eq _ _ h]
  · rw [h.1, h.2]
  · rfl
  · rfl

def eqbT : List (Nat × AV) → List (Nat × AV) → Bool
  | [], [] => true
  | a :: as, b :: bs => a.1 == b.1 && AV.eqb a.2 b.2 && eqbT as bs
  | _, _ => false
def eqbB : List (Nat × Blk) → List (Nat × Blk) → Bool
  | [], [] => true
  | a :: as, b :: bs => a.1 == b.1 && Blk.eqb a.2 b.2 && eqbB as bs
  | _, _ => false
def eqbO : List Blk → List Blk → Bool
  | [], [] => true
  | a :: as, b :: bs => Blk.eqb a b && eqbO as bs
  | _, _ => false
theorem eqbT_eq : ∀ a b, eqbT a b = true → a = b
  | [], b, h => by cases b <;> simp [eqbT] at h; rfl
  | a :: as, b, h => by
    cases b <;> simp [eqbT] at h
    rename_i x xs
    rw [eqbT_eq as xs h.2, Prod.ext h.1.1 (AV.eqb_eq _ _ h.1.2)]
theorem eqbB_eq : ∀ a b, eqbB a b = true → a = b
  | [], b, h => by cases b <;> simp [eqbB] at h; rfl
  | a :: as, b, h => by
    cases b <;> simp [eqbB] at h
    rename_i x xs
    rw [eqbB_eq as xs h.2, Prod.ext h.1.1 (Blk.eqb_eq _ _ h.1.2)]
theorem eqbO_eq : ∀ a b, eqbO a b = true → a = b
  | [], b, h => by cases b <;> simp [eqbO] at h; rfl
  | a :: as, b, h => by
    cases b <;> simp [eqbO] at h
    rename_i x xs
    rw [eqbO_eq as xs h.2, Blk.eqb_eq _ _ h.1]

def St.eqb (a b : St) : Bool := eqbT a.t b.t && eqbB a.m b.m && eqbO a.o b.o
theorem St.eqb_eq {a b : St} (h : a.eqb b = true) : a = b := by
  obtain ⟨a1, a2, a3⟩ := a
  obtain ⟨b1, b2, b3⟩ := b
  simp only [St.eqb, Bool.and_eq_true] at h
  rw [eqbT_eq _ _ h.1.1, eqbB_eq _ _ h.1.2, eqbO_eq _ _ h.2]

def rTree (E : FnS) (h : List Blk) (nb : Nat) (lv : List Nat) : List Nat → Tree → St → Option St
  | _, .leaf, s => some (s.kp lv)
  | _, .free t, s => rTree E h nb lv [] t s
  | hd, .hold _ t, s => rTree E h nb lv hd t s
  | hd, .take o t, s => match (if ldOk s hd o = true then evTake h s o else none) with
    | some (s', _) => rTree E h nb lv hd t s'
    | none => none
  | hd, .one o t, s => match evOne E h nb hd s o with
    | some (s', ws) => if (ws.all fun i => !hd.contains i) = true then rTree E h nb lv hd t s' else none
    | none => none
  | hd, .alt o t r, s => match evOne E h nb hd s o with
    | some (s', ws) => if (ws.all fun i => !hd.contains i) = true then
        (match rTree E h nb lv hd t s', rTree E h nb lv hd r s with
          | some x, some y => if x.eqb y = true then some x else none
          | _, _ => none) else none
    | none => none

def rLead (E : FnS) (h : List Blk) (nb : Nat) (lv : List Nat) (hd : List Nat) : Tree → St → Option St
  | .hold ts t, s => rLead E h nb lv (holdIds s ts ++ hd) t s
  | .take o t, s => match evTake h s o with
    | some (s', rs) => rLead E h nb lv (rs ++ hd) t s'
    | none => none
  | t, s => if (hd.all (isLiveB (full h s))) = true then rTree E h nb lv hd t s else none

def rCode (E : FnS) (n : Nat) (h : List Blk) : IC → St → Out
  | .skip, s => some (.normal, s)
  | .reg lv ops, s => kpN lv (nrm (evOps E h ops s))
  | .drw lv nb t, s => nrm (rLead E h (h.length + s.o.length) lv [] t (pends s nb))
  | .seq a b, s => sk (rCode E n h a s) fun s' => rCode E n h b s'
  | .cond lv c a b, s => match val s c with
    | some (.g (.bool x)) => kpN lv (if x = true then rCode E n h a s else rCode E n h b s)
    | _ => none
  | .block lv id c, s => bk lv id (rCode E n h c s)
  | .loop lv _ c, s => loopF (fun s => rCode E n h c s) lv n (s.kp lv)
  | .regy lv ops, s => kpN lv (nrm (evOpsY E h ops s))
  | .rfun lv rd lt f, s => evRf E h lv rd lt f s
  | .exit id, s => some (.exit id, s)
  | .ret, s => some (.ret, s)

def rX (T : Tab) (f : FuncId) (args : List AV) (H : List Blk) : Option Res :=
  match args with
  | .yk _ :: _ => none
  | _ => T.X f args H

def rBody (E : FnS) (n : Nat) (F : IFunc) (args : List AV) (H : List Blk) : Option Res :=
  if args.length ≤ F.nt then
    match rCode E n H F.body ⟨initT 0 args, [], []⟩ with
    | some (.ret, s) => finish H F s
    | some (.normal, s) => finish H F s
    | _ => none
  else none

def rF (T : Tab) (k : Nat) : Nat → FnS
  | 0 => fun _ _ _ => none
  | n + 1 => fun f args H => match T.T f with
    | some F => rBody (rF T k n) k F args H
    | none => rX T f args H

section
variable {E : FnS} {h : List Blk} {nb : Nat} {hd lv : List Nat}

theorem rTree_ev : ∀ (hd : List Nat) (t : Tree) (s r : St), rTree E h nb lv hd t s = some r → evTree E h nb lv hd t s = some r
  | hd, .leaf, s, r, he => by simpa only [evTree, rTree] using he
  | hd, .hold ts t, s, r, he => by
    simp only [rTree] at he
    simp only [evTree]
    exact rTree_ev hd t s r he
  | hd, .free t, s, r, he => by
    simp only [rTree] at he
    simp only [evTree]
    exact rTree_ev [] t s r he
  | hd, .take o t, s, r, he => by
    simp only [rTree] at he
    split at he
    case h_2 => cases he
    rename_i s' rs h1
    simp only [evTree, h1]
    exact rTree_ev hd t _ r he
  | hd, .one o t, s, r, he => by
    simp only [rTree] at he
    split at he
    case h_2 => cases he
    rename_i s' ws h1
    split at he
    case isFalse => cases he
    rename_i hw
    simp only [evTree, h1, if_pos hw]
    exact rTree_ev hd t _ r he
  | hd, .alt o t t2, s, r, he => by
    simp only [rTree] at he
    split at he
    case h_2 => cases he
    rename_i s' ws h1
    split at he
    case isFalse => cases he
    rename_i hw
    split at he
    case h_2 => cases he
    rename_i x y hx hy
    split at he
    case isFalse => cases he
    rename_i hxy
    cases he
    have := St.eqb_eq hxy
    subst this
    simp only [evTree, h1, if_pos hw, rTree_ev hd t _ _ hx, rTree_ev hd t2 _ _ hy, if_true]

theorem rLead_ev : ∀ (t : Tree) (hd : List Nat) (s r : St), rLead E h nb lv hd t s = some r → evLead E h nb lv hd t s = some r
  | .take o t, hd, s, r, he => by
    simp only [rLead] at he
    split at he
    case h_2 => cases he
    rename_i s' rs h1
    simp only [evLead, h1]
    exact rLead_ev t _ _ r he
  | .hold ts t, hd, s, r, he => by
    simp only [rLead] at he
    simp only [evLead]
    exact rLead_ev t _ s r he
  | .leaf, hd, s, r, he | .free _, hd, s, r, he | .one _ _, hd, s, r, he | .alt _ _ _, hd, s, r, he => by
    simp only [rLead] at he
    simp only [evLead]
    split at he
    case isFalse => cases he
    rename_i hl
    rw [if_pos hl]
    exact rTree_ev _ _ s r he

theorem rCode_ev (n : Nat) : ∀ (c : IC) (s : St) (r : Ex × St), rCode E n h c s = some r → evCode E h c s = some r
  | .skip, s, r, he => by simpa only [evCode, rCode] using he
  | .exit _, s, r, he => by simpa only [evCode, rCode] using he
  | .ret, s, r, he => by simpa only [evCode, rCode] using he
  | .reg lv ops, s, r, he => by simpa only [evCode, rCode] using he
  | .regy lv ops, s, r, he => by simpa only [evCode, rCode] using he
  | .rfun lv rd lt f, s, r, he => by simpa only [evCode, rCode] using he
  | .drw lv nb t, s, r, he => by
    simp only [rCode] at he
    simp only [evCode]
    cases hq : rLead E h (h.length + s.o.length) lv [] t (pends s nb) with
    | none => rw [hq] at he; cases he
    | some s' => rw [hq] at he; rw [rLead_ev _ _ _ _ hq]; exact he
  | .seq a b, s, r, he => by
    simp only [rCode] at he
    simp only [evCode]
    rcases sk_inv he with ⟨s1, h1, h2⟩ | ⟨h1, h2⟩
    · rw [rCode_ev n a s _ h1]; exact rCode_ev n b s1 r h2
    · exact sk_of (rCode_ev n a s _ h1) h2
  | .cond lv c a b, s, r, he => by
    simp only [rCode] at he
    split at he
    case h_2 => cases he
    rename_i x hx
    simp only [evCode, hx]
    cases x with
    | true =>
      simp only [if_true] at he ⊢
      cases hq : rCode E n h a s with
      | none => rw [hq] at he; cases he
      | some s' => rw [hq] at he; rw [rCode_ev n a s _ hq]; exact he
    | false =>
      simp only [Bool.false_eq_true, if_false] at he ⊢
      cases hq : rCode E n h b s with
      | none => rw [hq] at he; cases he
      | some s' => rw [hq] at he; rw [rCode_ev n b s _ hq]; exact he
  | .block lv id c, s, r, he => by
    simp only [rCode] at he
    simp only [evCode]
    cases hq : rCode E n h c s with
    | none => rw [hq] at he; cases he
    | some s' => rw [hq] at he; rw [rCode_ev n c s _ hq]; exact he
  | .loop lv _ c, s, r, he => by
    simp only [rCode] at he
    simp only [evCode]
    have key : ∀ (m : Nat) (s : St), loopF (fun s => rCode E n h c s) lv m s = some r → loopF (fun s => evCode E h c s) lv m s = some r := by
      intro m
      induction m with
      | zero => intro s hh; cases hh
      | succ m ih =>
        intro s hh
        simp only [loopF] at hh ⊢
        rcases sk_inv hh with ⟨s1, h1, h2⟩ | ⟨h1, h2⟩
        · rw [rCode_ev n c s _ h1]; exact ih _ h2
        · exact sk_of (rCode_ev n c s _ h1) h2
    exact loopL_of (key n _ he)

theorem rBody_ev {n : Nat} {F : IFunc} {args : List AV} {H : List Blk} {r : Res} (he : rBody E n F args H = some r) : evBody E F args H = some r := by
  unfold rBody at he
  unfold evBody
  split at he
  case isFalse => cases he
  rename_i hl
  rw [if_pos hl]
  cases hq : rCode E n H F.body ⟨initT 0 args, [], []⟩ with
  | none => rw [hq] at he; cases he
  | some x => rw [hq] at he; rw [rCode_ev n _ _ _ hq]; exact he
end

theorem rF_ev (T : Tab) (k : Nat) : ∀ (n : Nat) (f : FuncId) (args : List AV) (H : List Blk) (r : Res), rF T k n f args H = some r → evF T n f args H = some r
  | 0, _, _, _, _, h => by cases h
  | n + 1, f, args, H, r, h => by
    simp only [rF] at h
    split at h
    · rename_i F hF
      have h1 := rBody_ev h
      obtain ⟨l, h2, h3⟩ := evBody_hangs h1
      simp only [evF, hF]
      exact h3 _ fun q hq => rF_ev T k n _ _ _ _ (h2 q hq)
    · rename_i hF
      simp only [evF, hF]
      unfold rX at h
      split at h
      · cases h
      · rename_i hn
        unfold evX
        split
        · exact absurd rfl (hn _ _)
        · exact h

/-- What the running program answers, the functions answer. -/
theorem EvF_run {T : Tab} {k n : Nat} {f : FuncId} {args : List AV} {H : List Blk} {r : Res} (h : rF T k n f args H = some r) : EvF T f args H = some r :=
  EvF_of (rF_ev T k n f args H r h)

end Go.AM
end
section
set_option linter.unusedSimpArgs false
set_option linter.unusedVariables false
namespace Go.AM
open Go Go.RowKit Go.ChangeShapes

def tileP (P : Program) : List (Nat × TypeId) → Nat → Nat → Bool
  | [], off, e => decide (off = e)
  | (o, t) :: r, off, e => decide (o = off) && tileP P r (off + P.cellsOf t) e

def partsF (fs : Array Field) : List (Nat × TypeId) := fs.toList.map fun f => (f.offset, f.type)
def partsA (P : Program) (n : Nat) (e : TypeId) : List (Nat × TypeId) := (List.range n).map fun i => (i * P.cellsOf e, e)

/-- Types whose values are data: bools, whole numbers, texts, slices, structs, arrays. -/
def dataT (P : Program) : Nat → TypeId → Bool
  | 0, _ => false
  | d + 1, t => match P.underlying t with
    | some .bool | some (.int _) | some .string => true
    | some (.slice e) => decide (0 < P.cellsOf e) && dataT P d e
    | some (.struct fs) => ((partsF fs).all fun p => dataT P d p.2) && tileP P (partsF fs) 0 (P.cellsOf t)
    | some (.array n e) => ((partsA P n e).all fun p => dataT P d p.2) && tileP P (partsA P n e) 0 (P.cellsOf t)
    | _ => false

/-- The cells that a value of a type may have. -/
def TypG (P : Program) : Nat → TypeId → List GV → Prop
  | 0, _, _ => False
  | d + 1, t, gs => match P.underlying t with
    | some .bool => ∃ b, gs = [.bool b]
    | some (.int k) => ∃ n, gs = [.int k n] ∧ (Lit.int k n).wf = true
    | some .string => ∃ s, gs = [.str s] ∧ s.length ≤ 9223372036854775807
    | some (.slice e) => gs = [.nsl] ∨ ∃ els : List (List GV), gs = [.sl (P.cellsOf e) els] ∧ els.length ≤ 9223372036854775807 ∧ ∀ el ∈ els, el.length = P.cellsOf e ∧ TypG P d e el
    | some (.struct fs) => gs.length = P.cellsOf t ∧ ∀ p ∈ partsF fs, TypG P d p.2 ((gs.drop p.1).take (P.cellsOf p.2))
    | some (.array n e) => gs.length = P.cellsOf t ∧ ∀ p ∈ partsA P n e, TypG P d p.2 ((gs.drop p.1).take (P.cellsOf p.2))
    | _ => False

/-- Cells and what they hold. -/
def GRs (E : Env) (gs : List GV) (cs : List Value) : Prop := gs.length = cs.length ∧ ∀ (j : Nat) (g : GV) (c : Value), gs[j]? = some g → cs[j]? = some c → GR E g c

theorem GRs.one {E : Env} {g : GV} {c : Value} (h : GR E g c) : GRs E [g] [c] := ⟨rfl, fun j x y hx hy => by
  cases j with
  | zero => simp at hx hy; subst hx hy; exact h
  | succ j => simp at hx⟩

theorem GRs.append {E : Env} {gs gs' : List GV} {cs cs' : List Value} (h : GRs E gs cs) (h' : GRs E gs' cs') : GRs E (gs ++ gs') (cs ++ cs') := by
  refine ⟨by simp [h.1, h'.1], fun j x y hx hy => ?_⟩
  by_cases hl : j < gs.length
  · rw [List.getElem?_append_left hl] at hx
    rw [List.getElem?_append_left (by rw [← h.1]; exact hl)] at hy
    exact h.2 j x y hx hy
  · rw [List.getElem?_append_right (by omega)] at hx
    rw [List.getElem?_append_right (by rw [← h.1]; omega)] at hy
    exact h'.2 _ x y hx (by rw [h.1]; exact hy)

theorem tile_ok {P : Program} {E : Env} {d : Nat} {cs : List Value} : ∀ (ps : List (Nat × TypeId)) (off : Nat), tileP P ps off cs.length = true →
    (∀ p ∈ ps, ∃ gs, TypG P d p.2 gs ∧ GRs E gs ((cs.drop p.1).take (P.cellsOf p.2))) →
    ∃ gs, GRs E gs (cs.drop off) ∧ ∀ p ∈ ps, off ≤ p.1 ∧ TypG P d p.2 ((gs.drop (p.1 - off)).take (P.cellsOf p.2))
  | [], off, ht, _ => by
    simp [tileP] at ht
    subst ht
    exact ⟨[], ⟨by simp, fun j x y hx => by simp at hx⟩, fun p hp => by cases hp⟩
  | (o, t) :: r, off, ht, hh => by
    simp only [tileP, Bool.and_eq_true, decide_eq_true_eq] at ht
    obtain ⟨rfl, ht⟩ := ht
    obtain ⟨gs1, h1, h2⟩ := hh (o, t) (by simp)
    obtain ⟨gs2, h3, h4⟩ := tile_ok r _ ht (fun p hp => hh p (by simp [hp]))
    simp only at h1 h2
    have hle : ∀ (ps : List (Nat × TypeId)) (off e : Nat), tileP P ps off e = true → off ≤ e := by
      intro ps
      induction ps with
      | nil => intro off e h; simp [tileP] at h; omega
      | cons p ps ih =>
        intro off e h
        simp only [tileP, Bool.and_eq_true] at h
        have := ih _ _ h.2
        omega
    have hle := hle r _ _ ht
    have hg1 : gs1.length = P.cellsOf t := by rw [h2.1]; simp; omega
    refine ⟨gs1 ++ gs2, ?_, fun p hp => ?_⟩
    · have e : cs.drop o = (cs.drop o).take (P.cellsOf t) ++ cs.drop (o + P.cellsOf t) := by
        rw [← List.drop_drop, List.take_append_drop]
      rw [e]
      exact h2.append h3
    · rcases List.mem_cons.1 hp with rfl | hp
      · refine ⟨Nat.le_refl _, ?_⟩
        simp only [Nat.sub_self, List.drop_zero]
        rw [List.take_append_of_le_length (by omega), ← hg1, List.take_length]
        exact h1
      · obtain ⟨k1, k2⟩ := h4 p hp
        refine ⟨by omega, ?_⟩
        rw [List.drop_append, List.drop_eq_nil_of_le (by omega), List.nil_append, hg1, show p.1 - o - P.cellsOf t = p.1 - (o + P.cellsOf t) from by omega]
        exact k2


theorem maxLen_eq : maxLen = 9223372036854775807 := by decide

theorem mapM_range_get {w : World} {b : Nat} {a : Addr} {n : Nat} {l : List Value} (h : w.cells? b a n = some l) : l.length = n ∧ ∀ j, j < n → w.cell? (a.add j) = l[j]? := by
  unfold World.cells? at h
  split at h
  · have h1 := mapM_some_length h
    refine ⟨by simpa using h1, fun j hj => ?_⟩
    have := mapM_some_get h j j (by simp [hj])
    exact this
  · cases h

section
variable {H : Type} {enc : TypeId × Value → H} {P : Program} {W : World} {L : Nat → Lc} {spare : Nat → Bool} {held : Bool}

/-- What reads as data is told of by ground values. -/
theorem open_data : ∀ (d : Nat) (t : TypeId) (cs : List Value) (fuel : Nat) (x : DataW H × List MemPlace), dataT P d t = true → DataW.trod enc P W 0 spare held fuel t cs = some x →
    ∃ gs, GRs (envOf W [] L) gs cs ∧ TypG P d t gs
  | 0, _, _, _, _, hd, _ => by cases hd
  | d + 1, t, cs, fuel, x, hd, hx => by
    simp only [dataT] at hd
    split at hd
    · rename_i hu
      obtain ⟨b, rfl, _⟩ := DataW.trod_bool hu hx
      exact ⟨_, .one (.bool b), by simp only [TypG, hu]; exact ⟨b, rfl⟩⟩
    · rename_i k hu
      obtain ⟨n, rfl, _, hw⟩ := DataW.trod_int hu hx
      exact ⟨_, .one (.int k n), by simp only [TypG, hu]; exact ⟨n, rfl, hw⟩⟩
    · rename_i hu
      obtain ⟨s, rfl, _, hs⟩ := DataW.trod_string hu hx
      refine ⟨[.str s.data.toList], .one ?_, by simp only [TypG, hu]; exact ⟨_, rfl, by rw [maxLen_eq] at hs; rw [Array.length_toList]; exact hs⟩⟩
      have := GR.str (E := envOf W [] L) s.data.toList
      simpa using this
    · rename_i e hu
      simp only [Bool.and_eq_true, decide_eq_true_eq] at hd
      obtain ⟨hpos, hd⟩ := hd
      rcases DataW.trod_slice hu hx with ⟨rfl, _⟩ | ⟨a, len, cap, elems, rest, n, rfl, rfl, _, hb, hlc, hcm, hel, hget, hrest⟩
      · exact ⟨_, .one .nsl, by simp only [TypG, hu]; exact .inl trivial⟩
      · -- the elements
        have hE : ∀ i, i < len → ∃ l gs, W.cells? 0 (a.add (i * P.cellsOf e)) (P.cellsOf e) = some l ∧ GRs (envOf W [] L) gs l ∧ TypG P d e gs := by
          intro i hi
          have h1 := hget i hi
          have h2 : i < elems.length := by omega
          rw [List.getElem?_eq_getElem h2] at h1
          cases hq : W.cells? 0 (a.add (i * P.cellsOf e)) (P.cellsOf e) with
          | none => rw [hq] at h1; cases h1
          | some l =>
            rw [hq] at h1
            obtain ⟨gs, k1, k2⟩ := open_data d e l n _ hd h1
            exact ⟨l, gs, rfl, k1, k2⟩
        have hF : ∃ els : List (List GV), els.length = len ∧ ∀ (i : Nat) (el : List GV), els[i]? = some el → ∃ l, W.cells? 0 (a.add (i * P.cellsOf e)) (P.cellsOf e) = some l ∧ GRs (envOf W [] L) el l ∧ TypG P d e el := by
          clear hget hlc hel hx hrest
          induction len with
          | zero => exact ⟨[], rfl, fun i el h => by simp at h⟩
          | succ m ih =>
            obtain ⟨els, k1, k2⟩ := ih (fun i hi => hE i (by omega))
            obtain ⟨l, gs, h1, h2, h3⟩ := hE m (by omega)
            refine ⟨els ++ [gs], by simp [k1], fun i el hi => ?_⟩
            by_cases hlt : i < els.length
            · rw [List.getElem?_append_left hlt] at hi; exact k2 i el hi
            · rw [List.getElem?_append_right (by omega)] at hi
              have : i - els.length = 0 := by
                cases hq : i - els.length with
                | zero => rfl
                | succ n => rw [hq] at hi; simp at hi
              rw [this] at hi
              simp at hi
              subst hi
              have : i = m := by omega
              subst this
              exact ⟨l, h1, h2, h3⟩
        obtain ⟨els, hl, hels⟩ := hF
        have hlenof : ∀ (i : Nat) (el : List GV), els[i]? = some el → el.length = P.cellsOf e := fun i el hi => by
          obtain ⟨l, k1, k2, _⟩ := hels i el hi
          rw [k2.1]; exact (mapM_range_get k1).1
        refine ⟨[.sl (P.cellsOf e) els], .one ?_, ?_⟩
        · by_cases h0 : els = []
          · have : len = 0 := by rw [← hl, h0]; rfl
            subst this
            rw [h0]
            exact .sl0 _ _ _
          · have h1 : 0 < els.length := by cases els <;> simp at h0 ⊢
            have hspot : a.spot = none := by
              obtain ⟨l, k1, k2, _⟩ := hels 0 _ (List.getElem?_eq_getElem h1)
              obtain ⟨j1, j2⟩ := mapM_range_get k1
              have := j2 0 hpos
              rw [List.getElem?_eq_getElem (by omega)] at this
              have h3 := World.cell?_spot this
              obtain ⟨b, o, sp⟩ := a
              cases sp with
              | none => rfl
              | some k => simp [Addr.add] at h3
            obtain ⟨b, o, sp⟩ := a
            simp only at hspot
            subst hspot
            have hcell : ∀ (i : Nat) (el : List GV) (j : Nat) (g : GV), els[i]? = some el → el[j]? = some g →
                ∃ c, W.cell? ⟨b, o + i * P.cellsOf e + j, none⟩ = some c ∧ ((W.cells? 0 ((⟨b, o, none⟩ : Addr).add (i * P.cellsOf e)) (P.cellsOf e)).getD [])[j]? = some c ∧ GR (envOf W [] L) g c := by
              intro i el j g hi hj
              obtain ⟨l, k1, k2, _⟩ := hels i el hi
              obtain ⟨j1, j2⟩ := mapM_range_get k1
              have hjl : j < el.length := (List.getElem?_eq_some_iff.1 hj).1
              have hlj : j < l.length := by rw [← k2.1]; exact hjl
              have h3 := j2 j (by omega)
              rw [add_none, add_none, List.getElem?_eq_getElem hlj] at h3
              exact ⟨l[j], h3, by rw [k1]; simp [hlj], k2.2 j g _ hj (List.getElem?_eq_getElem hlj)⟩
            have hbs : b < W.heap.size := by
              obtain ⟨l, k1, k2, _⟩ := hels 0 _ (List.getElem?_eq_getElem h1)
              have h4 := hlenof 0 _ (List.getElem?_eq_getElem h1)
              obtain ⟨c, h5, _⟩ := hcell 0 _ 0 _ (List.getElem?_eq_getElem h1) (List.getElem?_eq_getElem (by omega))
              unfold World.cell? at h5
              split at h5
              · rename_i hh; exact (Array.getElem?_eq_some_iff.1 hh).1
              · cases h5
            rw [← hl]
            refine .sl (fun i j => (((W.cells? 0 ((⟨b, o, none⟩ : Addr).add (i * P.cellsOf e)) (P.cellsOf e)).getD [])[j]?).getD Go.undef) (by omega) hbs (fun ⟨id, k, hk, _⟩ => by simp at hk) hlenof ?_ ?_
            · intro i el j g hi hj
              obtain ⟨c, k1, k2, _⟩ := hcell i el j g hi hj
              show W.cell? _ = _
              rw [k1, k2]; rfl
            · intro i el j g hi hj
              obtain ⟨c, k1, k2, k3⟩ := hcell i el j g hi hj
              rw [k2]; exact k3
        · simp only [TypG, hu]
          refine .inr ⟨els, rfl, by rw [maxLen_eq] at hcm; omega, fun el hel' => ?_⟩
          obtain ⟨i, hi, hi'⟩ := List.mem_iff_getElem.1 hel'
          have hg : els[i]? = some el := by rw [List.getElem?_eq_getElem hi, hi']
          obtain ⟨l, k1, k2, k3⟩ := hels i el hg
          exact ⟨hlenof i el hg, k3⟩
    · rename_i fs hu
      obtain ⟨xs, n, rfl, _, hl, hxl, hf⟩ := DataW.trod_struct hu hx
      simp only [Bool.and_eq_true, List.all_eq_true] at hd
      obtain ⟨gs, k1, k2⟩ := tile_ok (d := d) (E := envOf W [] L) (cs := cs) (partsF fs) 0 (by rw [hl]; exact hd.2) (fun p hp => by
        simp only [partsF, List.mem_map] at hp
        obtain ⟨f, hfm, rfl⟩ := hp
        obtain ⟨i, hi, hi'⟩ := List.mem_iff_getElem.1 hfm
        have h1 := hf i f (by rw [← Array.getElem?_toList, List.getElem?_eq_getElem hi, hi'])
        have h2 : i < xs.length := by rw [hxl]; simpa using hi
        rw [List.getElem?_eq_getElem h2] at h1
        obtain ⟨gs, k1, k2⟩ := open_data d f.type _ n _ (hd.1 (f.offset, f.type) (by simp only [partsF, List.mem_map]; exact ⟨f, hfm, rfl⟩)) h1
        exact ⟨gs, k2, k1⟩)
      refine ⟨gs, by simpa using k1, ?_⟩
      simp only [TypG, hu]
      exact ⟨by rw [k1.1]; simpa using hl, fun p hp => by simpa using (k2 p hp).2⟩
    · rename_i n e hu
      obtain ⟨xs, m, rfl, _, hl, hxl, hf⟩ := DataW.trod_array hu hx
      simp only [Bool.and_eq_true, List.all_eq_true] at hd
      obtain ⟨gs, k1, k2⟩ := tile_ok (d := d) (E := envOf W [] L) (cs := cs) (partsA P n e) 0 (by rw [hl]; exact hd.2) (fun p hp => by
        have hp' := hp
        simp only [partsA, List.mem_map, List.mem_range] at hp
        obtain ⟨i, hi, rfl⟩ := hp
        have h1 := hf i hi
        rw [List.getElem?_eq_getElem (by omega)] at h1
        obtain ⟨gs, k1, k2⟩ := open_data d e _ m _ (hd.1 _ hp') h1
        exact ⟨gs, k2, k1⟩)
      refine ⟨gs, by simpa using k1, ?_⟩
      simp only [TypG, hu]
      exact ⟨by rw [k1.1]; simpa using hl, fun p hp => by simpa using (k2 p hp).2⟩
    · cases hd
end

end Go.AM
end
section
set_option linter.unusedSimpArgs false
set_option linter.unusedVariables false
namespace Go.AM
open Go Go.RowKit Go.ChangeShapes Go.WideShapes

def oneG : List GV → AV
  | [g] => .g g
  | _ => .undef

/-- An argument's value out of its cells. -/
def avT (P : Program) (t : TypeId) (gs : List GV) : AV :=
  match P.underlying t with
  | some (.struct _) | some (.array _ _) => .agg (gs.map .g)
  | _ => oneG gs

def TypAll (P : Program) (d : Nat) : List TypeId → List (List GV) → Prop
  | [], [] => True
  | t :: ts, g :: gs => TypG P d t g ∧ TypAll P d ts gs
  | _, _ => False

def avs (P : Program) : List TypeId → List (List GV) → List AV
  | t :: ts, g :: gs => avT P t g :: avs P ts gs
  | _, _ => []

theorem TypAll.cons_inv {P : Program} {d : Nat} {t : TypeId} {ts : List TypeId} {gss : List (List GV)} (h : TypAll P d (t :: ts) gss) : ∃ g gs, gss = g :: gs ∧ TypG P d t g ∧ TypAll P d ts gs := by
  cases gss with
  | nil => exact h.elim
  | cons g gs => exact ⟨g, gs, rfl, h.1, h.2⟩
theorem TypAll.nil_inv {P : Program} {d : Nat} {gss : List (List GV)} (h : TypAll P d [] gss) : gss = [] := by
  cases gss with
  | nil => rfl
  | cons g gs => exact h.elim
theorem TypG.int_inv {P : Program} {d : Nat} {t : TypeId} {k : IntKind} {gs : List GV} (hu : P.underlying t = some (.int k)) (h : TypG P (d + 1) t gs) :
    ∃ n, gs = [.int k n] ∧ k.min ≤ n ∧ n ≤ k.max ∧ avT P t gs = .g (.int k n) := by
  simp only [TypG, hu] at h
  obtain ⟨n, rfl, hw⟩ := h
  refine ⟨n, rfl, ?_, ?_, by simp only [avT, hu, oneG]⟩ <;> simp only [Lit.wf, Bool.and_eq_true, decide_eq_true_eq] at hw
  · exact hw.1
  · exact hw.2
theorem TypG.bool_inv {P : Program} {d : Nat} {t : TypeId} {gs : List GV} (hu : P.underlying t = some .bool) (h : TypG P (d + 1) t gs) : ∃ b, gs = [.bool b] ∧ avT P t gs = .g (.bool b) := by
  simp only [TypG, hu] at h
  obtain ⟨n, rfl⟩ := h
  exact ⟨n, rfl, by simp only [avT, hu, oneG]⟩
theorem TypG.str_inv {P : Program} {d : Nat} {t : TypeId} {gs : List GV} (hu : P.underlying t = some .string) (h : TypG P (d + 1) t gs) :
    ∃ s, gs = [.str s] ∧ s.length ≤ 9223372036854775807 ∧ avT P t gs = .g (.str s) := by
  simp only [TypG, hu] at h
  obtain ⟨n, rfl, hw⟩ := h
  exact ⟨n, rfl, hw, by simp only [avT, hu, oneG]⟩

section
variable {H : Type} {enc : TypeId × Value → H} {P : Program} {W : World} {L : Nat → Lc} {spare : Nat → Bool} {held : Bool}

theorem GRs.agg {E : Env} {gs : List GV} {C : Array Value} (h : GRs E gs C.toList) : AR E (.agg (gs.map .g)) (.agg C) := by
  have key : ∀ (j : Nat) (v : Value), C[j]? = some v → ∃ g, gs[j]? = some g ∧ GR E g v := fun j v hv => by
    have hlt : j < gs.length := by rw [h.1]; simpa using (Array.getElem?_eq_some_iff.1 hv).1
    exact ⟨gs[j], List.getElem?_eq_getElem hlt, h.2 j _ v (List.getElem?_eq_getElem hlt) (by simpa using hv)⟩
  refine .agg (by simpa using h.1) (fun j a v ha hv => ?_) (fun j v hv => ?_)
  · obtain ⟨g, h1, h2⟩ := key j v hv
    rw [List.getElem?_map, h1] at ha
    cases ha
    exact .g h2
  · obtain ⟨g, h1, h2⟩ := key j v hv
    exact h2.one

theorem open_arg {d : Nat} {t : TypeId} {v : Value} {b0 : Nat} {dd : DataW H} {ps : List MemPlace} (hd : dataT P d t = true) (hval : Value.okWide P W .any b0 t v) (h : DataW.Trod enc P W 0 spare held t v dd ps) :
    ∃ gs, TypG P d t gs ∧ AR (envOf W [] L) (avT P t gs) v := by
  obtain ⟨fuel, hf⟩ := h
  obtain ⟨gs, h1, h2⟩ := open_data (L := L) d t _ fuel _ hd hf
  refine ⟨gs, h2, ?_⟩
  have single : ∀ c, v = c → c.cells.toList = [c] → AR (envOf W [] L) (oneG gs) v := by
    rintro c rfl hc
    rw [hc] at h1
    match gs, h1 with
    | [g], h1 => exact .g (h1.2 0 g v rfl rfl)
    | [], h1 => have := h1.1; simp at this
    | _ :: _ :: _, h1 => have := h1.1; simp at this
  cases d with
  | zero => cases hd
  | succ d =>
    simp only [dataT] at hd
    unfold avT
    split at hd
    · rename_i hu
      rw [hu]
      obtain ⟨b, rfl⟩ := okWide_bool hu hval
      exact single _ rfl rfl
    · rename_i k hu
      rw [hu]
      obtain ⟨b, rfl⟩ := okWide_int hu hval
      exact single _ rfl rfl
    · rename_i hu
      rw [hu]
      obtain ⟨b, rfl⟩ := okWide_string hu hval
      exact single _ rfl rfl
    · rename_i e hu
      rw [hu]
      obtain ⟨a, l, c, rfl⟩ := okWide_slice hu hval
      exact single _ rfl rfl
    · rename_i fs hu
      rw [hu]
      simp only [Value.okWide, hu] at hval
      obtain ⟨C, rfl, _, _⟩ := hval
      exact GRs.agg h1
    · rename_i n e hu
      rw [hu]
      simp only [Value.okWide, hu] at hval
      obtain ⟨C, rfl, _, _⟩ := hval
      exact GRs.agg h1
    · cases hd

theorem open_args {d b0 : Nat} : ∀ (ts : List TypeId) (vs : List Value) (ds : List (DataW H)) (ps : List MemPlace), (ts.all (dataT P d)) = true → DataW.TrodAll enc P W 0 spare held ts vs ds ps →
    (∀ (j : Nat) t v, ts[j]? = some t → vs[j]? = some v → Value.okWide P W .any b0 t v) →
    ∃ gss, TypAll P d ts gss ∧ (avs P ts gss).length = vs.length ∧ ∀ (j : Nat) (a : AV) (v : Value), (avs P ts gss)[j]? = some a → vs[j]? = some v → AR (envOf W [] L) a v
  | [], vs, ds, ps, _, h, _ => by
    obtain ⟨rfl, _, _⟩ := trodAll_nil h
    exact ⟨[], trivial, rfl, fun j a v ha => by simp [avs] at ha⟩
  | t :: ts, vs, ds, ps, hd, h, hval => by
    obtain ⟨v, vs', d', ds', p, q, rfl, rfl, rfl, h1, h2⟩ := trodAll_cons h
    simp only [List.all_cons, Bool.and_eq_true] at hd
    obtain ⟨gs, k1, k2⟩ := open_arg (L := L) hd.1 (hval 0 t v rfl rfl) h1
    obtain ⟨gss, k3, k4, k5⟩ := open_args ts vs' ds' q hd.2 h2 (fun j t v ht hv => hval (j + 1) t v (by simpa using ht) (by simpa using hv))
    refine ⟨gs :: gss, ⟨k1, k3⟩, by simp [avs, k4], fun j a u ha hu => ?_⟩
    cases j with
    | zero => simp [avs] at ha hu; subst ha hu; exact k2
    | succ j => exact k5 j a u (by simpa [avs] using ha) (by simpa using hu)

theorem enter_of_cFunc {f : FuncId} {esc : Bool} {hints : List (List Nat)} {F : IFunc} (hF : cFunc P f esc hints = some F) (xs : Array Value) (w : World) : (callFunc f xs).run P w = .ok (.enter f xs) w := by
  unfold cFunc at hF
  split at hF
  case h_2 => cases hF
  rename_i fn hfn
  split at hF
  case h_2 => cases hF
  rename_i c hbody
  split at hF
  case isFalse => cases hF
  rename_i hname
  simp [callFunc, hfn, hname, hbody]
  simpa using hname

/-- What a law's row asks of the call. -/
theorem law_calls {T : Tab} (hT : TabOk P T) {f : FuncId} {F : IFunc} (hF : T.T f = some F) {d b0 : Nat} {ts : List TypeId} {args : Array Value} {ds : List (DataW H)} {ps : List MemPlace}
    (hd : (ts.all (dataT P d)) = true) (hA : DataW.TrodAll enc P W 0 spare held ts args.toList ds ps) (hval : ∀ (j : Nat) t v, ts[j]? = some t → args[j]? = some v → Value.okWide P W .any b0 t v)
    (spec : ∀ gss, TypAll P d ts gss → EvF T f (avs P ts gss) [] = some ⟨.g (.bool true), [], []⟩) :
    Calls P f args W fun e W' => e = .returned (.bool true) ∧ Below W.heap.size W W' := by
  obtain ⟨gss, h1, h2, h3⟩ := open_args (L := fun _ => ⟨none, 0, 0, false⟩) ts args.toList ds ps hd hA (fun j t v ht hv => hval j t v ht (by simpa using hv))
  have hr : HR W [] (fun _ => ⟨none, 0, 0, false⟩) := ⟨fun id k hk => by simp at hk, fun i j b x y hx => by simp at hx⟩
  have hs := (EvF_ok hT f _ [] _ (spec gss h1)).1 W _ args hr ⟨by simpa using h2, fun j a v ha hv => h3 j a v ha (by simpa using hv)⟩
  obtain ⟨esc, hints, hc⟩ := hT.fn f F hF
  rcases hs with ⟨_, hs⟩ | ⟨_, v, w', hs, _⟩
  · refine hs.mono fun e w' ⟨v, he, L', k1, k2, k3, k4⟩ => ?_
    have := k1.inv_g.inv_bool
    subst this
    refine ⟨he, k3.os, k3.tape, k3.output, k3.size, fun k hk => (k3.keep k hk ?_).1⟩
    rintro ⟨id, x, hx, _⟩
    simp at hx
  · rw [enter_of_cFunc hc] at hs
    cases hs
end

end Go.AM
end
