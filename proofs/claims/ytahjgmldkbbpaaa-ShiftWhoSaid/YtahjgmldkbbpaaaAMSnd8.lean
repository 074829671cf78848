/- All functions of a table: what they answer, they do; and how their answers unfold. -/
import Derived.Test.YtahjgmldkbbpaaaAMSnd7
set_option linter.unusedSimpArgs false
set_option linter.unusedVariables false
namespace Go.AM
open Go

theorem lim_eq {α : Type} {f : Nat → Option α} (hm : ∀ n m r, n ≤ m → f n = some r → f m = some r) {n : Nat} {r : α} (h : f n = some r) : lim f = some r := by
  unfold lim
  have hx : ∃ n r, f n = some r := ⟨n, r, h⟩
  rw [dif_pos hx]
  obtain ⟨r', hr'⟩ := hx.choose_spec
  rw [hr']
  rcases Nat.le_total n hx.choose with hle | hle
  · rw [← hr']; exact hm _ _ _ hle h
  · have := hm _ _ _ hle hr'; rw [h] at this; exact this.symm

theorem loopF_mono (step : St → Out) (lv : List Nat) : ∀ (n m : Nat) (s : St) (r : Ex × St), n ≤ m → loopF step lv n s = some r → loopF step lv m s = some r
  | 0, _, _, _, _, h => by cases h
  | n + 1, 0, _, _, hle, _ => by omega
  | n + 1, m + 1, s, r, hle, h => by
    simp only [loopF, sk] at h ⊢
    split at h
    · exact loopF_mono step lv n m _ r (by omega) h
    · exact h

theorem loopL_of {step : St → Out} {lv : List Nat} {n : Nat} {s : St} {r : Ex × St} (h : loopF step lv n s = some r) : loopL step lv s = some r :=
  lim_eq (fun n m r hle => loopF_mono step lv n m s r hle) h

theorem sk_inv {x : Out} {k : St → Out} {r : Ex × St} (h : sk x k = some r) : (∃ s, x = some (.normal, s) ∧ k s = some r) ∨ (x = some r ∧ r.1 ≠ .normal) := by
  unfold sk at h
  split at h
  · exact .inl ⟨_, rfl, h⟩
  · rename_i hn
    subst h
    obtain ⟨e, s⟩ := r
    exact .inr ⟨rfl, fun e' => hn s (by rw [← e'])⟩

theorem sk_of {x : Out} {k : St → Out} {r : Ex × St} (h : x = some r) (hn : r.1 ≠ .normal) : sk x k = some r := by
  subst h
  obtain ⟨e, s⟩ := r
  cases e <;> first | exact absurd rfl hn | rfl

/-- A loop is its first round, and the loop. -/
theorem loopL_eq (step : St → Out) (lv : List Nat) (s : St) : loopL step lv s = sk (step s) fun s' => loopL step lv (s'.kp lv) := by
  apply Option.ext
  intro r
  constructor
  · intro h
    obtain ⟨n, hn⟩ := lim_some h
    cases n with
    | zero => cases hn
    | succ n =>
      simp only [loopF] at hn
      rcases sk_inv hn with ⟨s1, h1, h2⟩ | ⟨h1, h2⟩
      · rw [h1]; exact loopL_of h2
      · exact sk_of h1 h2
  · intro h
    rcases sk_inv h with ⟨s1, h1, h2⟩ | ⟨h1, h2⟩
    · obtain ⟨n, hn⟩ := lim_some h2
      exact loopL_of (n := n + 1) (by simp only [loopF, sk, h1]; exact hn)
    · exact loopL_of (n := 1) (by simp only [loopF]; exact sk_of h1 h2)

/-! ### An answer hangs on few answers -/
abbrev Qs := List ((FuncId × List AV × List Blk) × Res)

def QS (E : FnS) (l : Qs) : Prop := ∀ q, q ∈ l → E q.1.1 q.1.2.1 q.1.2.2 = some q.2

theorem QS.left {E : FnS} {l l' : Qs} (h : QS E (l ++ l')) : QS E l := fun q hq => h q (List.mem_append.2 (.inl hq))
theorem QS.right {E : FnS} {l l' : Qs} (h : QS E (l ++ l')) : QS E l' := fun q hq => h q (List.mem_append.2 (.inr hq))
theorem QS.app {E : FnS} {l l' : Qs} (h : QS E l) (h' : QS E l') : QS E (l ++ l') := fun q hq => (List.mem_append.1 hq).elim (h q) (h' q)
theorem QS.nil (E : FnS) : QS E [] := fun _ h => by cases h

/-- What it says holds where as much is answered. -/
def Hangs {α : Type} (E : FnS) (g : FnS → Option α) (r : α) : Prop := ∃ l, QS E l ∧ ∀ E', QS E' l → g E' = some r

theorem Hangs.const {α : Type} {E : FnS} {g : FnS → Option α} {r : α} (h : ∀ E', g E' = some r) : Hangs E g r := ⟨[], QS.nil _, fun E' _ => h E'⟩
theorem Hangs.congr {α β : Type} {E : FnS} {g : FnS → Option α} {g' : FnS → Option β} {x : α} {r : β} (h : Hangs E g x) (hk : ∀ E', g E' = some x → g' E' = some r) : Hangs E g' r :=
  let ⟨l, h1, h2⟩ := h; ⟨l, h1, fun E' h' => hk E' (h2 E' h')⟩
theorem Hangs.bind {α β γ : Type} {E : FnS} {g : FnS → Option α} {g2 : FnS → Option β} {g' : FnS → Option γ} {x : α} {y : β} {r : γ} (h : Hangs E g x) (h2 : Hangs E g2 y)
    (hk : ∀ E', g E' = some x → g2 E' = some y → g' E' = some r) : Hangs E g' r :=
  let ⟨l, h1, h1'⟩ := h; let ⟨l', h3, h3'⟩ := h2; ⟨l ++ l', h1.app h3, fun E' h' => hk E' (h1' E' h'.left) (h3' E' h'.right)⟩

section
variable {E : FnS} {h : List Blk} {nb : Nat} {hd lv : List Nat} {s : St}

theorem evCall_hangs {f : AV} {xs : List AV} {r} (he : evCall E h hd s f xs = some r) : Hangs E (fun E => evCall E h hd s f xs) r := by
  unfold evCall at he
  split at he
  case isFalse => cases he
  rename_i hl
  have key : ∀ (g : FuncId) (ys : List AV), fin h hd s (E g ys (hideB hd (full h s))) = some r → (∀ E' : FnS, evCall E' h hd s f xs = fin h hd s (E' g ys (hideB hd (full h s)))) →
      Hangs E (fun E => evCall E h hd s f xs) r := by
    intro g ys hf hE'
    cases hq : E g ys (hideB hd (full h s)) with
    | none => rw [hq] at hf; cases hf
    | some q =>
      rw [hq] at hf
      refine ⟨[((g, ys, hideB hd (full h s)), q)], fun p hp => by simp at hp; subst hp; exact hq, fun E' h' => ?_⟩
      have := h' _ (List.mem_singleton.2 rfl)
      simp only [hE']
      simp only at this
      rw [this]
      exact hf
  split at he
  · exact key _ _ he fun E' => by simp only [evCall, if_pos hl]
  · exact key _ _ he fun E' => by simp only [evCall, if_pos hl]
  · cases he

theorem exOp_hangs {op : AOp} {r} (he : exOp E h nb hd s op = some r) : Hangs E (fun E => exOp E h nb hd s op) r := by
  by_cases hc : ∃ f xs, op = .call f xs
  · obtain ⟨f, xs, rfl⟩ := hc
    simp only [exOp] at he
    split at he
    · rename_i fv vs hf hv
      refine (evCall_hangs he).congr fun E' h' => ?_
      simp only [exOp, hf, hv]; exact h'
    · cases he
  · refine Hangs.const fun E' => ?_
    rw [exOp_other (fun f xs e => hc ⟨f, xs, e⟩)] at he ⊢
    exact he

theorem gdo_hangs {α : Type} {g : Option (Nat × Bool)} {yes : FnS → St → Option α} {no : St → Option α} {r : α} (hy : ∀ s, yes E s = some r → Hangs E (fun E => yes E s) r) (he : gdo s g (yes E) no = some r) :
    Hangs E (fun E => gdo s g (yes E) no) r := by
  unfold gdo at he
  split at he
  · exact (hy _ he).congr fun E' k => k
  · rename_i g b
    split at he
    · rename_i x hx
      split at he
      · rename_i hxb
        refine (hy _ he).congr fun E' k => ?_
        simp only [gdo, hx, if_pos hxb]; exact k
      · rename_i hxb
        refine Hangs.const fun E' => ?_
        simp only [gdo, hx, if_neg hxb]; exact he
    · rename_i hx
      refine Hangs.const fun E' => ?_
      simp only [gdo, hx]; exact he
    · cases he

theorem evOne_hangs {o : AOper} {r} (he : evOne E h nb hd s o = some r) : Hangs E (fun E => evOne E h nb hd s o) r := by
  unfold evOne at he ⊢
  refine gdo_hangs (yes := fun E s => ob (exOp E h nb hd s o.op) fun p => some (p.2.1.put o.d p.1, p.2.2)) (fun s hs => ?_) he
  obtain ⟨p, hp, hs⟩ := ob_some hs
  refine (exOp_hangs hp).congr fun E' k => ?_
  simp only [k, ob]; exact hs

theorem evOps_hangs : ∀ (l : List AOper) (s : St) (r : St), evOps E h l s = some r → Hangs E (fun E => evOps E h l s) r
  | [], s, r, he => Hangs.const fun E' => he
  | o :: l, s, r, he => by
    simp only [evOps] at he
    obtain ⟨p, h1, he⟩ := ob_some he
    refine (evOne_hangs h1).bind (evOps_hangs l p.1 r he) fun E' k1 k2 => ?_
    simp only [evOps, k1, ob]
    exact k2

theorem evTree_hangs : ∀ (hd : List Nat) (t : Tree) (s : St) (r : St), evTree E h nb lv hd t s = some r → Hangs E (fun E => evTree E h nb lv hd t s) r
  | hd, .free t, s, r, he => by
    simp only [evTree] at he
    refine (evTree_hangs [] t s r he).congr fun E' k => ?_
    simp only [evTree]
    exact k
  | hd, .leaf, s, r, he => Hangs.const fun E' => by simpa only [evTree] using he
  | hd, .take o t, s, r, he => by
    simp only [evTree] at he
    split at he
    case h_2 => cases he
    rename_i s' rs h1
    refine (evTree_hangs hd t s' r he).congr fun E' k => ?_
    simp only [evTree, h1]
    exact k
  | hd, .one o t, s, r, he => by
    simp only [evTree] at he
    split at he
    case h_2 => cases he
    rename_i s' ws h1
    split at he
    case isFalse => cases he
    rename_i hw
    refine (evOne_hangs h1).bind (evTree_hangs hd t s' r he) fun E' k1 k2 => ?_
    simp only [evTree, k1, if_pos hw]
    exact k2
  | hd, .alt o t t2, s, r, he => by
    simp only [evTree] at he
    split at he
    case h_2 => cases he
    rename_i s' ws h1
    split at he
    case isFalse => cases he
    rename_i hw
    split at he
    case h_2 => cases he
    rename_i x y hx hy
    split at he
    case isFalse => cases he
    rename_i hxy
    subst hxy
    refine ((evOne_hangs h1).bind (evTree_hangs hd t s' x hx) (g' := fun E => match evOne E h nb hd s o with
      | some (s', ws) => if (ws.all fun i => !hd.contains i) = true then evTree E h nb lv hd t s' else none
      | none => none) (r := x) fun E' k1 k2 => ?_).bind (evTree_hangs hd t2 s x hy) fun E' k1 k2 => ?_
    · simp only [k1, if_pos hw]; exact k2
    · simp only [evTree]
      split at k1
      case h_2 => cases k1
      rename_i s2 ws2 h2
      split at k1
      case isFalse => cases k1
      rename_i hw2
      simp only [h2, if_pos hw2, k1, k2]
      exact he

theorem evLead_hangs : ∀ (t : Tree) (hd : List Nat) (s : St) (r : St), evLead E h nb lv hd t s = some r → Hangs E (fun E => evLead E h nb lv hd t s) r
  | .take o t, hd, s, r, he => by
    simp only [evLead] at he
    split at he
    case h_2 => cases he
    rename_i s' rs h1
    refine (evLead_hangs t _ s' r he).congr fun E' k => ?_
    simp only [evLead, h1]
    exact k
  | .leaf, hd, s, r, he | .free _, hd, s, r, he | .one _ _, hd, s, r, he | .alt _ _ _, hd, s, r, he => by
    simp only [evLead] at he
    split at he
    case isFalse => cases he
    rename_i hl
    refine (evTree_hangs _ _ s r he).congr fun E' k => ?_
    simp only [evLead, if_pos hl]
    exact k

theorem evCode_hangs : ∀ (c : IC) (s : St) (r : Ex × St), evCode E h c s = some r → Hangs E (fun E => evCode E h c s) r
  | .skip, s, r, he => Hangs.const fun E' => by simpa only [evCode] using he
  | .exit _, s, r, he => Hangs.const fun E' => by simpa only [evCode] using he
  | .ret, s, r, he => Hangs.const fun E' => by simpa only [evCode] using he
  | .reg lv ops, s, r, he => by
    simp only [evCode] at he
    cases hq : evOps E h ops s with
    | none => rw [hq] at he; cases he
    | some s' =>
      rw [hq] at he
      refine (evOps_hangs ops s s' hq).congr fun E' k => ?_
      simp only [evCode, k]; exact he
  | .drw lv nb t, s, r, he => by
    simp only [evCode] at he
    cases hq : evLead E h (h.length + s.o.length) lv [] t (pends s nb) with
    | none => rw [hq] at he; cases he
    | some s' =>
      rw [hq] at he
      refine (evLead_hangs t [] _ s' hq).congr fun E' k => ?_
      simp only [evCode, k]; exact he
  | .seq a b, s, r, he => by
    simp only [evCode] at he
    rcases sk_inv he with ⟨s1, h1, h2⟩ | ⟨h1, h2⟩
    · refine (evCode_hangs a s _ h1).bind (evCode_hangs b s1 r h2) fun E' k1 k2 => ?_
      simp only [evCode, sk, k1]; exact k2
    · refine (evCode_hangs a s _ h1).congr fun E' k1 => ?_
      simp only [evCode]; exact sk_of k1 h2
  | .cond lv c a b, s, r, he => by
    simp only [evCode] at he
    split at he
    case h_2 => cases he
    rename_i x hx
    cases x with
    | true =>
      simp only [if_true] at he
      cases hq : evCode E h a s with
      | none => rw [hq] at he; cases he
      | some s' =>
        rw [hq] at he
        refine (evCode_hangs a s s' hq).congr fun E' k => ?_
        simp only [evCode, hx, if_true, k]; exact he
    | false =>
      simp only [Bool.false_eq_true, if_false] at he
      cases hq : evCode E h b s with
      | none => rw [hq] at he; cases he
      | some s' =>
        rw [hq] at he
        refine (evCode_hangs b s s' hq).congr fun E' k => ?_
        simp only [evCode, hx, Bool.false_eq_true, if_false, k]; exact he
  | .block lv id c, s, r, he => by
    simp only [evCode] at he
    cases hq : evCode E h c s with
    | none => rw [hq] at he; cases he
    | some s' =>
      rw [hq] at he
      refine (evCode_hangs c s s' hq).congr fun E' k => ?_
      simp only [evCode, k]; exact he
  | .loop lv _ c, s, r, he => by
    simp only [evCode, loopL] at he
    obtain ⟨n, hn⟩ := lim_some he
    have key : ∀ (n : Nat) (s : St), loopF (fun s => evCode E h c s) lv n s = some r → Hangs E (fun E => loopF (fun s => evCode E h c s) lv n s) r := by
      intro n
      induction n with
      | zero => intro s hh; cases hh
      | succ n ih =>
        intro s hh
        simp only [loopF] at hh
        rcases sk_inv hh with ⟨s1, h1, h2⟩ | ⟨h1, h2⟩
        · refine (evCode_hangs c s _ h1).bind (ih _ h2) fun E' k1 k2 => ?_
          simp only [loopF, sk, k1]; exact k2
        · refine (evCode_hangs c s _ h1).congr fun E' k1 => ?_
          simp only [loopF]; exact sk_of k1 h2
    refine (key n _ hn).congr fun E' k => ?_
    simp only [evCode]
    exact loopL_of k

theorem evBody_hangs {F : IFunc} {args : List AV} {H : List Blk} {r : Res} (he : evBody E F args H = some r) : Hangs E (fun E => evBody E F args H) r := by
  unfold evBody at he
  split at he
  case isFalse => cases he
  rename_i hl
  cases hq : evCode E H F.body ⟨initT 0 args, [], []⟩ with
  | none => rw [hq] at he; cases he
  | some x =>
    rw [hq] at he
    refine (evCode_hangs F.body _ x hq).congr fun E' k => ?_
    simp only [evBody, if_pos hl, k]
    exact he
end

/-! ### A table -/
structure TabOk (P : Program) (T : Tab) : Prop where
  fn : ∀ f F, T.T f = some F → ∃ esc hints, cFunc P f esc hints = some F
  ex : FnOk P T.X
  mixed : P.follows .mixedOrders = true

theorem evF_ok {P : Program} {T : Tab} (hT : TabOk P T) : ∀ n, FnOk P (evF T n)
  | 0 => fun f args H r h => by cases h
  | n + 1 => fun f args H r h => by
    simp only [evF] at h
    split at h
    · rename_i F hF
      obtain ⟨esc, hints, hc⟩ := hT.fn f F hF
      exact evBody_ok (evF_ok hT n) hT.mixed hc h
    · exact hT.ex f args H r h

theorem evF_step (T : Tab) : ∀ n f args H r, evF T n f args H = some r → evF T (n + 1) f args H = some r
  | 0, _, _, _, _, h => by cases h
  | n + 1, f, args, H, r, h => by
    simp only [evF] at h ⊢
    split at h
    · rename_i F hF
      obtain ⟨l, h1, h2⟩ := evBody_hangs h
      exact h2 _ fun q hq => evF_step T n _ _ _ _ (h1 q hq)
    · exact h

theorem evF_mono (T : Tab) {n m : Nat} (hle : n ≤ m) {f args H r} (h : evF T n f args H = some r) : evF T m f args H = some r := by
  induction hle with
  | refl => exact h
  | step _ ih => exact evF_step T _ _ _ _ _ ih

theorem EvF_of {T : Tab} {n : Nat} {f args H r} (h : evF T n f args H = some r) : EvF T f args H = some r := lim_eq (fun n m r hle h => evF_mono T hle h) h

theorem EvF_ok {P : Program} {T : Tab} (hT : TabOk P T) : FnOk P (EvF T) := fun f args H r h => by
  obtain ⟨n, hn⟩ := lim_some h
  exact evF_ok hT n f args H r hn

theorem EvF_body {T : Tab} {f : FuncId} {F : IFunc} (hF : T.T f = some F) {args : List AV} {H : List Blk} {r : Res} (h : evBody (EvF T) F args H = some r) : EvF T f args H = some r := by
  obtain ⟨l, h1, h2⟩ := evBody_hangs h
  have : ∃ n, QS (evF T n) l := by
    clear h2 h
    induction l with
    | nil => exact ⟨0, QS.nil _⟩
    | cons q l ih =>
      obtain ⟨n, hn⟩ := ih fun q hq => h1 q (List.mem_cons_of_mem _ hq)
      obtain ⟨m, hm⟩ := lim_some (h1 q (List.mem_cons_self ..))
      refine ⟨max n m, fun p hp => ?_⟩
      rcases List.mem_cons.1 hp with rfl | hp
      · exact evF_mono T (Nat.le_max_right ..) hm
      · exact evF_mono T (Nat.le_max_left ..) (hn p hp)
  obtain ⟨n, hn⟩ := this
  refine EvF_of (n := n + 1) ?_
  simp only [evF, hF]
  exact h2 _ hn

theorem EvF_ext {T : Tab} {f : FuncId} (hF : T.T f = none) {args : List AV} {H : List Blk} {r : Res} (h : T.X f args H = some r) : EvF T f args H = some r :=
  EvF_of (n := 1) (by simp only [evF, hF]; exact h)

end Go.AM
