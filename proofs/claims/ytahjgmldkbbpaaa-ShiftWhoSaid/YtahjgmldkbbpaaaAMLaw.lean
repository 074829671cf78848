/- From what a law's function answers to its row: the calls that a row asks for. -/
import Derived.Test.YtahjgmldkbbpaaaAMData
set_option linter.unusedSimpArgs false
set_option linter.unusedVariables false
namespace Go.AM
open Go Go.RowKit Go.ChangeShapes Go.WideShapes

def oneG : List GV → AV
  | [g] => .g g
  | _ => .undef

/-- An argument's value out of its cells. -/
def avT (P : Program) (t : TypeId) (gs : List GV) : AV :=
  match P.underlying t with
  | some (.struct _) | some (.array _ _) => .agg (gs.map .g)
  | _ => oneG gs

def TypAll (P : Program) (d : Nat) : List TypeId → List (List GV) → Prop
  | [], [] => True
  | t :: ts, g :: gs => TypG P d t g ∧ TypAll P d ts gs
  | _, _ => False

def avs (P : Program) : List TypeId → List (List GV) → List AV
  | t :: ts, g :: gs => avT P t g :: avs P ts gs
  | _, _ => []

theorem TypAll.cons_inv {P : Program} {d : Nat} {t : TypeId} {ts : List TypeId} {gss : List (List GV)} (h : TypAll P d (t :: ts) gss) : ∃ g gs, gss = g :: gs ∧ TypG P d t g ∧ TypAll P d ts gs := by
  cases gss with
  | nil => exact h.elim
  | cons g gs => exact ⟨g, gs, rfl, h.1, h.2⟩
theorem TypAll.nil_inv {P : Program} {d : Nat} {gss : List (List GV)} (h : TypAll P d [] gss) : gss = [] := by
  cases gss with
  | nil => rfl
  | cons g gs => exact h.elim
theorem TypG.int_inv {P : Program} {d : Nat} {t : TypeId} {k : IntKind} {gs : List GV} (hu : P.underlying t = some (.int k)) (h : TypG P (d + 1) t gs) :
    ∃ n, gs = [.int k n] ∧ k.min ≤ n ∧ n ≤ k.max ∧ avT P t gs = .g (.int k n) := by
  simp only [TypG, hu] at h
  obtain ⟨n, rfl, hw⟩ := h
  refine ⟨n, rfl, ?_, ?_, by simp only [avT, hu, oneG]⟩ <;> simp only [Lit.wf, Bool.and_eq_true, decide_eq_true_eq] at hw
  · exact hw.1
  · exact hw.2
theorem TypG.bool_inv {P : Program} {d : Nat} {t : TypeId} {gs : List GV} (hu : P.underlying t = some .bool) (h : TypG P (d + 1) t gs) : ∃ b, gs = [.bool b] ∧ avT P t gs = .g (.bool b) := by
  simp only [TypG, hu] at h
  obtain ⟨n, rfl⟩ := h
  exact ⟨n, rfl, by simp only [avT, hu, oneG]⟩
theorem TypG.str_inv {P : Program} {d : Nat} {t : TypeId} {gs : List GV} (hu : P.underlying t = some .string) (h : TypG P (d + 1) t gs) :
    ∃ s, gs = [.str s] ∧ s.length ≤ 9223372036854775807 ∧ avT P t gs = .g (.str s) := by
  simp only [TypG, hu] at h
  obtain ⟨n, rfl, hw⟩ := h
  exact ⟨n, rfl, hw, by simp only [avT, hu, oneG]⟩

section
variable {H : Type} {enc : TypeId × Value → H} {P : Program} {W : World} {L : Nat → Lc} {spare : Nat → Bool} {held : Bool}

theorem GRs.agg {E : Env} {gs : List GV} {C : Array Value} (h : GRs E gs C.toList) : AR E (.agg (gs.map .g)) (.agg C) := by
  have key : ∀ (j : Nat) (v : Value), C[j]? = some v → ∃ g, gs[j]? = some g ∧ GR E g v := fun j v hv => by
    have hlt : j < gs.length := by rw [h.1]; simpa using (Array.getElem?_eq_some_iff.1 hv).1
    exact ⟨gs[j], List.getElem?_eq_getElem hlt, h.2 j _ v (List.getElem?_eq_getElem hlt) (by simpa using hv)⟩
  refine .agg (by simpa using h.1) (fun j a v ha hv => ?_) (fun j v hv => ?_)
  · obtain ⟨g, h1, h2⟩ := key j v hv
    rw [List.getElem?_map, h1] at ha
    cases ha
    exact .g h2
  · obtain ⟨g, h1, h2⟩ := key j v hv
    exact h2.one

theorem open_arg {d : Nat} {t : TypeId} {v : Value} {b0 : Nat} {dd : DataW H} {ps : List MemPlace} (hd : dataT P d t = true) (hval : Value.okWide P W .any b0 t v) (h : DataW.Trod enc P W 0 spare held t v dd ps) :
    ∃ gs, TypG P d t gs ∧ AR (envOf W [] L) (avT P t gs) v := by
  obtain ⟨fuel, hf⟩ := h
  obtain ⟨gs, h1, h2⟩ := open_data (L := L) d t _ fuel _ hd hf
  refine ⟨gs, h2, ?_⟩
  have single : ∀ c, v = c → c.cells.toList = [c] → AR (envOf W [] L) (oneG gs) v := by
    rintro c rfl hc
    rw [hc] at h1
    match gs, h1 with
    | [g], h1 => exact .g (h1.2 0 g v rfl rfl)
    | [], h1 => have := h1.1; simp at this
    | _ :: _ :: _, h1 => have := h1.1; simp at this
  cases d with
  | zero => cases hd
  | succ d =>
    simp only [dataT] at hd
    unfold avT
    split at hd
    · rename_i hu
      rw [hu]
      obtain ⟨b, rfl⟩ := okWide_bool hu hval
      exact single _ rfl rfl
    · rename_i k hu
      rw [hu]
      obtain ⟨b, rfl⟩ := okWide_int hu hval
      exact single _ rfl rfl
    · rename_i hu
      rw [hu]
      obtain ⟨b, rfl⟩ := okWide_string hu hval
      exact single _ rfl rfl
    · rename_i e hu
      rw [hu]
      obtain ⟨a, l, c, rfl⟩ := okWide_slice hu hval
      exact single _ rfl rfl
    · rename_i fs hu
      rw [hu]
      simp only [Value.okWide, hu] at hval
      obtain ⟨C, rfl, _, _⟩ := hval
      exact GRs.agg h1
    · rename_i n e hu
      rw [hu]
      simp only [Value.okWide, hu] at hval
      obtain ⟨C, rfl, _, _⟩ := hval
      exact GRs.agg h1
    · cases hd

theorem open_args {d b0 : Nat} : ∀ (ts : List TypeId) (vs : List Value) (ds : List (DataW H)) (ps : List MemPlace), (ts.all (dataT P d)) = true → DataW.TrodAll enc P W 0 spare held ts vs ds ps →
    (∀ (j : Nat) t v, ts[j]? = some t → vs[j]? = some v → Value.okWide P W .any b0 t v) →
    ∃ gss, TypAll P d ts gss ∧ (avs P ts gss).length = vs.length ∧ ∀ (j : Nat) (a : AV) (v : Value), (avs P ts gss)[j]? = some a → vs[j]? = some v → AR (envOf W [] L) a v
  | [], vs, ds, ps, _, h, _ => by
    obtain ⟨rfl, _, _⟩ := trodAll_nil h
    exact ⟨[], trivial, rfl, fun j a v ha => by simp [avs] at ha⟩
  | t :: ts, vs, ds, ps, hd, h, hval => by
    obtain ⟨v, vs', d', ds', p, q, rfl, rfl, rfl, h1, h2⟩ := trodAll_cons h
    simp only [List.all_cons, Bool.and_eq_true] at hd
    obtain ⟨gs, k1, k2⟩ := open_arg (L := L) hd.1 (hval 0 t v rfl rfl) h1
    obtain ⟨gss, k3, k4, k5⟩ := open_args ts vs' ds' q hd.2 h2 (fun j t v ht hv => hval (j + 1) t v (by simpa using ht) (by simpa using hv))
    refine ⟨gs :: gss, ⟨k1, k3⟩, by simp [avs, k4], fun j a u ha hu => ?_⟩
    cases j with
    | zero => simp [avs] at ha hu; subst ha hu; exact k2
    | succ j => exact k5 j a u (by simpa [avs] using ha) (by simpa using hu)

theorem enter_of_cFunc {f : FuncId} {esc : Bool} {hints : List (List Nat)} {F : IFunc} (hF : cFunc P f esc hints = some F) (xs : Array Value) (w : World) : (callFunc f xs).run P w = .ok (.enter f xs) w := by
  unfold cFunc at hF
  split at hF
  case h_2 => cases hF
  rename_i fn hfn
  split at hF
  case h_2 => cases hF
  rename_i c hbody
  split at hF
  case isFalse => cases hF
  rename_i hname
  simp [callFunc, hfn, hname, hbody]
  simpa using hname

/-- What a law's row asks of the call. -/
theorem law_calls {T : Tab} (hT : TabOk P T) {f : FuncId} {F : IFunc} (hF : T.T f = some F) {d b0 : Nat} {ts : List TypeId} {args : Array Value} {ds : List (DataW H)} {ps : List MemPlace}
    (hd : (ts.all (dataT P d)) = true) (hA : DataW.TrodAll enc P W 0 spare held ts args.toList ds ps) (hval : ∀ (j : Nat) t v, ts[j]? = some t → args[j]? = some v → Value.okWide P W .any b0 t v)
    (spec : ∀ gss, TypAll P d ts gss → EvF T f (avs P ts gss) [] = some ⟨.g (.bool true), [], []⟩) :
    Calls P f args W fun e W' => e = .returned (.bool true) ∧ Below W.heap.size W W' := by
  obtain ⟨gss, h1, h2, h3⟩ := open_args (L := fun _ => ⟨none, 0, 0, false⟩) ts args.toList ds ps hd hA (fun j t v ht hv => hval j t v ht (by simpa using hv))
  have hr : HR W [] (fun _ => ⟨none, 0, 0, false⟩) := ⟨fun id k hk => by simp at hk, fun i j b x y hx => by simp at hx⟩
  have hs := EvF_ok hT f _ [] _ (spec gss h1) W _ args hr ⟨by simpa using h2, fun j a v ha hv => h3 j a v ha (by simpa using hv)⟩
  obtain ⟨esc, hints, hc⟩ := hT.fn f F hF
  rcases hs with ⟨_, hs⟩ | ⟨v, w', hs, _⟩
  · refine hs.mono fun e w' ⟨v, he, L', k1, k2, k3, k4⟩ => ?_
    have := k1.inv_g.inv_bool
    subst this
    refine ⟨he, k3.os, k3.tape, k3.output, k3.size, fun k hk => (k3.keep k hk ?_).1⟩
    rintro ⟨id, x, hx, _⟩
    simp at hx
  · rw [enter_of_cFunc hc] at hs
    cases hs
end

end Go.AM
