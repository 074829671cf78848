/- What the evaluator says, the machine does: the state, hidden blocks, calls. -/
import Derived.Test.YtahjgmldkbbpaaaAMEval
set_option linter.unusedSimpArgs false
set_option linter.unusedVariables false
namespace Go.AM
open Go

def keysM (m : List (Nat × Blk)) : List Nat := m.map (·.1)

theorem keysM_upd (i id : Nat) (b : Blk) : ∀ m : List (Nat × Blk), i ∈ keysM (updM m id b) ↔ i = id ∨ i ∈ keysM m
  | [] => by simp [keysM, updM]
  | (a, v) :: t => by
    have ih := keysM_upd i id b t
    simp only [updM]
    split
    · rename_i e; subst e; simp [keysM]
    · simp only [keysM, List.map_cons, List.mem_cons] at ih ⊢
      rw [ih]
      constructor <;> (intro h; rcases h with h | h | h <;> simp [h])

theorem full_setAll (h : List Blk) (s : St) : ∀ m, full h (setAll h s m) = applyM (full h s) m
  | [] => rfl
  | (i, b) :: r => by simp only [setAll, applyM, full_setB, full_setAll h s r]

theorem full_app (h : List Blk) (s : St) (o : List Blk) : full h (s.app o) = full h s ++ o := by simp [full, St.app]

/-- What a state keeps in mind of the outer blocks it wrote; and what else stays. -/
structure Kp (h : List Blk) (s s' : St) (ws : List Nat) : Prop where
  old : ∀ i, i ∈ keysM s.m → i ∈ keysM s'.m
  new : ∀ i, i ∈ ws → i < h.length → i ∈ keysM s'.m
  stay : ∀ i, i ∉ ws → i < (full h s).length → (full h s')[i]? = (full h s)[i]?

theorem Kp.refl (h : List Blk) (s : St) : Kp h s s [] := ⟨fun _ h => h, fun _ h => by (cases h), fun _ _ _ => rfl⟩
theorem Kp.setB (h : List Blk) (s : St) (id : Nat) (b : Blk) : Kp h s (setB h s id b) [id] := by
  have hst : ∀ i, i ∉ [id] → i < (full h s).length → (full h (Go.AM.setB h s id b))[i]? = (full h s)[i]? := fun i hi _ => by
    rw [full_setB, List.getElem?_set_ne (fun e => hi (by simp [e]))]
  refine ⟨?_, ?_, hst⟩ <;> unfold Go.AM.setB <;> split
  · exact fun i hk => (keysM_upd i id b s.m).2 (.inr hk)
  · exact fun i hk => hk
  · exact fun i hk _ => (keysM_upd i id b s.m).2 (by simp at hk; exact .inl hk)
  · rename_i hi
    exact fun i hk hl => by simp at hk; subst hk; exact absurd hl hi
theorem Kp.o {h : List Blk} {s s' : St} (hm : s'.m = s.m) (o : List Blk) (ho : s'.o = s.o ++ o) : Kp h s s' [] := ⟨fun _ hk => by rw [hm]; exact hk, fun _ hk => by (cases hk), fun i _ hi => by
  unfold full at hi ⊢
  rw [hm, ho, ← List.append_assoc, List.getElem?_append_left hi]⟩
theorem Kp.put {h : List Blk} {s s' : St} {ws : List Nat} (k : Kp h s s' ws) (d : Option Nat) (v : AV) : Kp h s (s'.put d v) ws := by
  cases d
  · exact k
  · exact ⟨k.old, k.new, k.stay⟩

theorem setAll_keys (h : List Blk) (s : St) : ∀ m, (∀ i, i ∈ keysM s.m → i ∈ keysM (setAll h s m).m) ∧ (∀ i, i ∈ keysM m → i < h.length → i ∈ keysM (setAll h s m).m)
  | [] => ⟨fun _ h => h, fun _ h => by cases h⟩
  | (i, b) :: r => by
    obtain ⟨h1, h2⟩ := setAll_keys h s r
    have k := Kp.setB h (setAll h s r) i b
    refine ⟨fun j hj => k.old j (h1 j hj), fun j hj hl => ?_⟩
    simp only [keysM, List.map_cons, List.mem_cons] at hj
    rcases hj with rfl | hj
    · exact k.new j (by simp) hl
    · exact k.old j (h2 j hj hl)

theorem storeV_keys {h : List Blk} {s s' : St} {p : AV} {vs : List AV} {ws : List Nat} (he : storeV h s p vs = some (s', ws)) : Kp h s s' ws := by
  unfold storeV at he
  repeat' split at he
  all_goals first
    | (cases he; done)
    | (cases he; exact Kp.setB ..)

theorem appV_keys {h : List Blk} {s s' : St} {sz bytes : Nat} {x v : AV} {ys : List (List GV)} {ws : List Nat} (he : appV h s sz bytes x ys = some (v, s', ws)) : Kp h s s' ws := by
  unfold appV at he
  repeat' split at he
  all_goals first
    | (cases he; done)
    | (cases he; exact Kp.setB ..)
    | (cases he; exact Kp.refl ..)
    | (cases he; exact Kp.o rfl _ rfl)
    | (cases he; exact Kp.o rfl _ (List.append_assoc ..))

theorem evI_keys {h : List Blk} {nb : Nat} {s s' : St} {ao : AOp} {v : AV} {ws : List Nat} (he : evI h nb s ao = some (v, s', ws)) : Kp h s s' ws := by
  unfold evI at he
  repeat' split at he
  all_goals first
    | (cases he; done)
    | exact appV_keys he
    | (cases he; exact Kp.setB ..)
    | (cases he; exact Kp.refl ..)
    | (cases he; exact Kp.o rfl _ rfl)
    | (cases he; exact Kp.o rfl _ (List.append_assoc ..))
    | (cases he; exact storeV_keys (by assumption))

/-! ### Hidden blocks -/
theorem hideB_length : ∀ (hd : List Nat) (H : List Blk), (hideB hd H).length = H.length
  | [], _ => rfl
  | _ :: r, H => by simp [hideB, hideB_length r H]

theorem hideB_get (hd : List Nat) (H : List Blk) (i : Nat) : (hideB hd H)[i]? = if i ∈ hd then (H[i]?).map (fun _ => .hid) else H[i]? := by
  induction hd with
  | nil => simp [hideB]
  | cons a r ih =>
    simp only [hideB]
    by_cases e : a = i
    · subst e
      simp only [List.mem_cons, true_or, if_true]
      by_cases hl : a < H.length
      · rw [List.getElem?_set_self (by rw [hideB_length]; exact hl), List.getElem?_eq_getElem hl]; rfl
      · rw [List.getElem?_eq_none (by simp [hideB_length]; omega), List.getElem?_eq_none (by omega)]; rfl
    · rw [List.getElem?_set_ne e, ih]
      simp [Ne.symm e]

theorem isLiveB_iff {H : List Blk} {i : Nat} : isLiveB H i = true ↔ Live H i := by
  unfold isLiveB Live
  split
  · rename_i b hb; simp [hb]
  · rename_i hb; simp [hb]

theorem env_hide {w : World} {H : List Blk} {L : Nat → Lc} {hd : List Nat} (hl : ∀ i, i ∈ hd → Live H i) : envOf w (hideB hd H) L = envOf w H L := by
  have h1 : ∀ i, Live (hideB hd H) i ↔ Live H i := by
    intro i
    unfold Live
    rw [hideB_get]
    split
    · rename_i hi
      obtain ⟨x, hx, lx⟩ := hl i hi
      exact ⟨fun _ => ⟨x, hx, lx⟩, fun _ => ⟨.hid, by simp [hx], rfl⟩⟩
    · exact Iff.rfl
  have h2 : ∀ b, Own (hideB hd H) L b ↔ Own H L b := by
    intro b
    have e : ∀ H, Own H L b ↔ ∃ i, Live H i ∧ (L i).blk = some b := fun H =>
      ⟨fun ⟨i, x, p, q, r⟩ => ⟨i, ⟨x, p, q⟩, r⟩, fun ⟨i, ⟨x, p, q⟩, r⟩ => ⟨i, x, p, q, r⟩⟩
    rw [e, e]
    simp only [h1]
  unfold envOf
  rw [hideB_length, show Own (hideB hd H) L = Own H L from funext fun b => propext (h2 b), show Live (hideB hd H) = Live H from funext fun i => propext (h1 i)]

theorem HR.hide {w : World} {H : List Blk} {L : Nat → Lc} (hr : HR w H L) {hd : List Nat} (hl : ∀ i, i ∈ hd → Live H i) : HR w (hideB hd H) L := by
  refine ⟨fun id k hk => ?_, fun i j b x y hx hy lx ly hi hj => ?_⟩
  · rw [env_hide hl]
    rw [hideB_get] at hk
    split at hk
    · rename_i hid
      obtain ⟨x, hx, lx⟩ := hl id hid
      rw [hx] at hk
      cases hk
      exact fun b hb => (hr.blk id x hx).lt lx hb
    · exact hr.blk id k hk
  · have e : ∀ (i : Nat) (x : Blk), (hideB hd H)[i]? = some x → x.live = true → ∃ y : Blk, H[i]? = some y ∧ y.live = true := by
      intro i x hx lx
      rw [hideB_get] at hx
      split at hx
      · rename_i hid; exact hl i hid
      · exact ⟨x, hx, lx⟩
    obtain ⟨x', hx', lx'⟩ := e i x hx lx
    obtain ⟨y', hy', ly'⟩ := e j y hy ly
    exact hr.inj i j b x' y' hx' hy' lx' ly' hi hj

theorem applyM_get_ne : ∀ (m : List (Nat × Blk)) (H : List Blk) (i : Nat), i ∉ keysM m → (applyM H m)[i]? = H[i]?
  | [], _, _, _ => rfl
  | (a, v) :: t, H, i, hi => by
    simp only [keysM, List.map_cons, List.mem_cons, not_or] at hi
    simp only [applyM]
    rw [List.getElem?_set_ne (fun e => hi.1 e.symm)]
    exact applyM_get_ne t H i hi.2

theorem applyM_get_eq : ∀ (m : List (Nat × Blk)) (H H' : List Blk) (i : Nat), H.length = H'.length → (i ∉ keysM m → H[i]? = H'[i]?) → (applyM H m)[i]? = (applyM H' m)[i]?
  | [], _, _, i, _, h => h (by simp [keysM])
  | (a, v) :: t, H, H', i, hl, h => by
    simp only [applyM]
    by_cases e : a = i
    · subst e
      by_cases hlt : a < H.length
      · rw [List.getElem?_set_self (by rw [applyM_length]; exact hlt), List.getElem?_set_self (by rw [applyM_length]; omega)]
      · rw [List.getElem?_eq_none (by simp [applyM_length]; omega), List.getElem?_eq_none (by simp [applyM_length]; omega)]
    · rw [List.getElem?_set_ne e, List.getElem?_set_ne e]
      refine applyM_get_eq t H H' i hl (fun hi => h ?_)
      simp only [keysM, List.map_cons, List.mem_cons, not_or]
      exact ⟨fun e' => e e'.symm, hi⟩

/-- What was hidden comes back as it was. -/
theorem hide_back (hd : List Nat) (H : List Blk) (m : List (Nat × Blk)) (o : List Blk) (hk : ∀ i, i ∈ hd → i ∉ keysM m) (hlt : ∀ i, i ∈ hd → i < H.length) :
    applyM (hideB hd H) m ++ o = hideB hd (applyM H m ++ o) := by
  apply List.ext_getElem?
  intro i
  rw [hideB_get]
  by_cases hl : i < H.length
  · rw [List.getElem?_append_left (by rw [applyM_length, hideB_length]; exact hl), List.getElem?_append_left (by rw [applyM_length]; exact hl)]
    split
    · rename_i hi
      rw [applyM_get_ne _ _ _ (hk i hi), applyM_get_ne _ _ _ (hk i hi), hideB_get, if_pos hi]
    · rename_i hi
      exact applyM_get_eq m _ _ i (hideB_length ..) (fun _ => by rw [hideB_get, if_neg hi])
  · rw [if_neg (fun hi => hl (hlt i hi)), List.getElem?_append_right (by rw [applyM_length, hideB_length]; omega), List.getElem?_append_right (by rw [applyM_length]; omega),
      applyM_length, applyM_length, hideB_length]

/-! ### Calls -/
def CallOk (P : Program) (f : FuncId) (xs : Array Value) (w : World) (R : Value → World → Prop) : Prop :=
  ((callFunc f xs).run P w = .ok (.enter f xs) w ∧ Calls P f xs w (fun e w' => ∃ v, e = .returned v ∧ R v w')) ∨
  ∃ v w', (callFunc f xs).run P w = .ok (.value v) w' ∧ R v w'

def ArgsOk (E : Env) (args : List AV) (xs : Array Value) : Prop :=
  args.length = xs.size ∧ ∀ (j : Nat) (a : AV) (v : Value), args[j]? = some a → xs[j]? = some v → AR E a v

/-- A function's answer is what it does. -/
def SndF (P : Program) (f : FuncId) (args : List AV) (H : List Blk) (r : Res) : Prop :=
  ∀ (w : World) (L : Nat → Lc) (xs : Array Value), HR w H L → ArgsOk (envOf w H L) args xs →
    CallOk P f xs w fun v w' => ∃ L', AR (envOf w' (applyM H r.m ++ r.o) L') r.r v ∧ HR w' (applyM H r.m ++ r.o) L' ∧
      Ext (envOf w H L) (envOf w' (applyM H r.m ++ r.o) L') ∧ Same w w' H L L' (keysM r.m)

def FnOk (P : Program) (E : FnS) : Prop := ∀ f args H r, E f args H = some r → SndF P f args H r

theorem CallOk.mono {P : Program} {f : FuncId} {xs : Array Value} {w : World} {R R' : Value → World → Prop} (h : CallOk P f xs w R) (hr : ∀ v w', R v w' → R' v w') : CallOk P f xs w R' := by
  rcases h with ⟨h1, h2⟩ | ⟨v, w', h1, h2⟩
  · exact .inl ⟨h1, Calls.mono h2 fun e w' ⟨v, he, hv⟩ => ⟨v, he, hr v w' hv⟩⟩
  · exact .inr ⟨v, w', h1, hr v w' h2⟩

/-- The call, some blocks out of its sight. -/
theorem SndF.hide {P : Program} {f : FuncId} {args : List AV} {H : List Blk} {hd : List Nat} {r : Res} (hs : SndF P f args (hideB hd H) r) (hl : ∀ i, i ∈ hd → Live H i)
    (hk : ∀ i, i ∈ hd → i ∉ keysM r.m) : SndF P f args H r := by
  intro w L xs hr ha
  have hlt : ∀ i, i ∈ hd → i < H.length := fun i hi => let ⟨x, hx, _⟩ := hl i hi; (List.getElem?_eq_some_iff.1 hx).1
  refine (hs w L xs (hr.hide hl) (by rw [env_hide hl]; exact ha)).mono fun v w' ⟨L', h1, h2, h3, h4⟩ => ⟨L', ?_⟩
  rw [hide_back hd H r.m r.o hk hlt] at h1 h2 h3
  rw [env_hide hl] at h3
  have hl' : ∀ i, i ∈ hd → Live (applyM H r.m ++ r.o) i := fun i hi => by
    obtain ⟨x, hx, lx⟩ := hl i hi
    exact ⟨x, by rw [List.getElem?_append_left (by rw [applyM_length]; exact hlt i hi), applyM_get_ne _ _ _ (hk i hi)]; exact hx, lx⟩
  rw [env_hide hl'] at h1 h3
  have hsame : Same w w' H L L' (keysM r.m) := fun id hid hn => by
    obtain ⟨k1, k2⟩ := h4 id (by rw [hideB_length]; exact hid) hn
    refine ⟨k1, fun hv => k2 ?_⟩
    obtain ⟨x, hx, lx⟩ := hv
    unfold Live
    rw [hideB_get]
    split
    · exact ⟨.hid, by rw [hx]; rfl, rfl⟩
    · exact ⟨x, hx, lx⟩
  refine ⟨h1, ⟨fun id k hk' => ?_, fun i j b x y hx hy lx ly hi hj => ?_⟩, h3, hsame⟩
  · by_cases hid : id ∈ hd
    · obtain ⟨x, hx, lx⟩ := hl id hid
      have e : k = x := by
        rw [List.getElem?_append_left (by rw [applyM_length]; exact hlt id hid), applyM_get_ne _ _ _ (hk id hid), hx] at hk'
        exact (Option.some.inj hk').symm
      subst e
      obtain ⟨k1, k2⟩ := hsame id (hlt id hid) (hk id hid)
      exact (hr.blk id k hx).mono h3 k1 (fun _ b hb => k2 ⟨k, hx, lx⟩ b hb)
    · have := h2.blk id k (by rw [hideB_get, if_neg hid]; exact hk')
      rw [env_hide hl'] at this
      exact this
  · have e : ∀ (i : Nat) (x : Blk), (applyM H r.m ++ r.o)[i]? = some x → x.live = true → ∃ y : Blk, (hideB hd (applyM H r.m ++ r.o))[i]? = some y ∧ y.live = true := by
      intro i x hx lx
      rw [hideB_get]
      split
      · exact ⟨.hid, by rw [hx]; rfl, rfl⟩
      · exact ⟨x, hx, lx⟩
    obtain ⟨x', hx', lx'⟩ := e i x hx lx
    obtain ⟨y', hy', ly'⟩ := e j y hy ly
    exact h2.inj i j b x' y' hx' hy' lx' ly' hi hj

end Go.AM
