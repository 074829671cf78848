/- What the evaluator says, the machine does: code. -/
import Derived.Test.YtahjgmldkbbpaaaAMSnd4
set_option linter.unusedSimpArgs false
set_option linter.unusedVariables false
namespace Go.AM
open Go

def allocs (ops : Array Oper) : Nat := allocNo ops ops.size

/-- Code that nobody comes to. -/
def dead : IC := .reg [] [⟨none, none, .row 0 []⟩]

/-- The abstract machine's code of a code: behind each part the temporaries that are told of further on are kept (as handed). -/
def cCode (P : Program) (nt : Nat) : Code → List (List Nat) → Option (IC × List (List Nat))
  | .skip, hs => some (.skip, hs)
  | .region _ ops draw, hs => match hs with
    | lv :: hs => if draw = true then
        (if Region.noSelect ops = true then match cTree P nt ops ops.size true (Array.replicate ops.size false) with
          | some t => some (.drw lv (allocs ops) t, hs)
          | none => none else none)
        else match cOps P nt ops ops.toList with
          | some al => some (.reg lv al, hs)
          | none => none
    | [] => none
  | .seq a b, hs => match cCode P nt a hs with
    | some (x, hs) => match cCode P nt b hs with
      | some (y, hs) => some (.seq x y, hs)
      | none => none
    | none => none
  | .cond c a b, hs => match hs with
    | lv :: hs => match cOpd c with
      | some c => match cCode P nt a hs with
        | some (x, hs) => match cCode P nt b hs with
          | some (y, hs) => some (.cond lv c x y, hs)
          | none => none
        | none => none
      | none => none
    | [] => none
  | .block id a, hs => match hs with
    | lv :: hs => match cCode P nt a hs with
      | some (x, hs) => some (.block lv id x, hs)
      | none => none
    | [] => none
  | .loop a, hs => match hs with
    | lv :: hs => match cCode P nt a hs with
      | some (x, hs) => some (.loop lv [] x, hs)
      | none => none
    | [] => none
  | .exit id, hs => some (.exit id, hs)
  | .label _, hs => some (.skip, hs)
  | .ret, hs => some (.ret, hs)
  | _, hs => some (dead, hs)

theorem dead_none {E : FnS} {h : List Blk} {s : St} : evCode E h dead s = none := by
  simp only [dead, evCode, evOps, evOne, gdo, exOp, AOp.acts, evP]
  rfl

def exOf : Ex → Exit
  | .normal => .normal
  | .exit id => .exit id
  | .ret => .ret

theorem lim_some {α : Type} {f : Nat → Option α} {r : α} (h : lim f = some r) : ∃ n, f n = some r := by
  unfold lim at h
  split at h
  · rename_i hx; exact ⟨_, h⟩
  · cases h

section
variable {P : Program} {w0 : World} {L0 : Nat → Lc} {h : List Blk} {nt : Nat} {E : FnS}

/-- What a code ends in. -/
def Ends (w0 : World) (L0 : Nat → Lc) (h : List Blk) (nt : Nat) (e : Ex) (s : St) : Exit → Act → World → Prop :=
  fun e' a' w' => e' = exOf e ∧ ∃ L', SR w0 L0 h nt s a' w' L'

theorem kpN_inv {lv : List Nat} {r : Out} {e : Ex} {s' : St} (he : kpN lv r = some (e, s')) : ∃ s1, r = some (e, s1) ∧ ((e = .normal ∧ s' = s1.kp lv) ∨ (e ≠ .normal ∧ s' = s1)) := by
  unfold kpN at he
  split at he
  · cases he; exact ⟨_, rfl, .inl ⟨rfl, rfl⟩⟩
  · rename_i hn
    subst he
    exact ⟨s', rfl, .inr ⟨fun e' => hn s' (by rw [e']), rfl⟩⟩

theorem ends_kp {lv : List Nat} {r : Out} {e : Ex} {s' : St} {e' : Exit} {a' : Act} {w' : World} (he : kpN lv r = some (e, s')) (hr : ∀ s1, r = some (e, s1) → Ends w0 L0 h nt e s1 e' a' w') :
    Ends w0 L0 h nt e s' e' a' w' := by
  obtain ⟨s1, h1, h2⟩ := kpN_inv he
  obtain ⟨k1, L', k2⟩ := hr s1 h1
  rcases h2 with ⟨rfl, rfl⟩ | ⟨_, rfl⟩
  · exact ⟨k1, L', k2.kp lv⟩
  · exact ⟨k1, L', k2⟩

theorem evCode_ok (hE : FnOk P E) (hm : P.follows .mixedOrders = true) : ∀ (c : Code) (hs : List (List Nat)) (ic : IC) (hs' : List (List Nat)), cCode P nt c hs = some (ic, hs') →
    ∀ (s : St) (a : Act) (w : World) (L : Nat → Lc) (e : Ex) (s' : St), SR w0 L0 h nt s a w L → evCode E h ic s = some (e, s') → c.wp P (Ends w0 L0 h nt e s') a w := by
  intro c
  induction c with
  | skip =>
    intro hs ic hs' hc s a w L e s' hsr he
    cases hc
    simp only [evCode] at he
    cases he
    exact wp_skip ⟨rfl, L, hsr⟩
  | label l =>
    intro hs ic hs' hc s a w L e s' hsr he
    cases hc
    simp only [evCode] at he
    cases he
    exact wp_label ⟨rfl, L, hsr⟩
  | exit id =>
    intro hs ic hs' hc s a w L e s' hsr he
    cases hc
    simp only [evCode] at he
    cases he
    exact wp_exit ⟨rfl, L, hsr⟩
  | ret =>
    intro hs ic hs' hc s a w L e s' hsr he
    cases hc
    simp only [evCode] at he
    cases he
    exact wp_ret ⟨rfl, L, hsr⟩
  | region id ops draw =>
    intro hs ic hs' hc s a w L e s' hsr he
    simp only [cCode] at hc
    split at hc
    case h_2 => cases hc
    rename_i lv hs1
    split at hc
    · rename_i hd
      subst hd
      split at hc
      case isFalse => cases hc
      rename_i hsel
      split at hc
      case h_2 => cases hc
      rename_i t ht
      cases hc
      simp only [evCode] at he
      cases hq : evLead E h (h.length + s.o.length) lv [] t (pends s (allocs ops)) with
      | none => rw [hq] at he; cases he
      | some s1 =>
        rw [hq] at he
        cases he
        exact evDrw_ok hE hm hsel (fun c a w hq => by cases hq.1) ht hsr hq fun a' w' L' k => ⟨rfl, L', k⟩
    · rename_i hd
      have : draw = false := by simpa using hd
      subst this
      split at hc
      case h_2 => cases hc
      rename_i al hal
      cases hc
      simp only [evCode] at he
      have key : ∃ s1, evOps E h al s = some s1 ∧ e = .normal ∧ s' = s1.kp lv := by
        obtain ⟨s1, h1, h2⟩ := kpN_inv he
        cases hq : evOps E h al s with
        | none => rw [hq] at h1; cases h1
        | some s2 =>
          rw [hq] at h1
          cases h1
          rcases h2 with ⟨_, rfl⟩ | ⟨h, _⟩
          · exact ⟨_, rfl, rfl, rfl⟩
          · exact absurd rfl h
      obtain ⟨s1, h1, rfl, rfl⟩ := key
      exact evReg_ok hE hal hsr h1 fun a' w' L' k => ⟨rfl, L', k.kp lv⟩
  | seq x y ihx ihy =>
    intro hs ic hs' hc s a w L e s' hsr he
    simp only [cCode] at hc
    split at hc
    case h_2 => cases hc
    rename_i cx hs1 h1
    split at hc
    case h_2 => cases hc
    rename_i cy hs2 h2
    cases hc
    simp only [evCode, sk] at he
    split at he
    · rename_i s1 hx
      refine wp_seq (wp_mono (ihx hs cx hs1 h1 s a w L _ s1 hsr hx) fun e' a' w' ⟨k1, L', k2⟩ => ?_)
      subst k1
      exact ihy hs1 cy hs' h2 s1 a' w' L' e s' k2 he
    · rename_i hn
      refine wp_seq (wp_mono (ihx hs cx hs1 h1 s a w L _ s' hsr he) fun e' a' w' ⟨k1, k2⟩ => ?_)
      subst k1
      cases e with
      | normal => exact absurd he (fun hh => hn s' hh)
      | exit id => exact ⟨rfl, k2⟩
      | ret => exact ⟨rfl, k2⟩
  | cond c x y ihx ihy =>
    intro hs ic hs' hc s a w L e s' hsr he
    simp only [cCode] at hc
    split at hc
    case h_2 => cases hc
    rename_i lv hs0
    split at hc
    case h_2 => cases hc
    rename_i oc hoc
    split at hc
    case h_2 => cases hc
    rename_i cx hs1 h1
    split at hc
    case h_2 => cases hc
    rename_i cy hs2 h2
    cases hc
    simp only [evCode] at he
    split at he
    case h_2 => cases he
    rename_i b hb
    have hcv := (cOpd_ok hsr.tr hoc hb).inv_g.inv_bool
    refine wp_cond hcv ?_
    cases b with
    | true =>
      simp only [if_true] at he ⊢
      obtain ⟨s1, k1, _⟩ := kpN_inv he
      exact wp_mono (ihx hs0 cx hs1 h1 s a w L e s1 hsr k1) fun e' a' w' k => ends_kp he fun s2 hs2 => by rw [k1] at hs2; cases hs2; exact k
    | false =>
      simp only [Bool.false_eq_true, if_false] at he ⊢
      obtain ⟨s1, k1, _⟩ := kpN_inv he
      exact wp_mono (ihy hs1 cy hs' h2 s a w L e s1 hsr k1) fun e' a' w' k => ends_kp he fun s2 hs2 => by rw [k1] at hs2; cases hs2; exact k
  | block id x ihx =>
    intro hs ic hs' hc s a w L e s' hsr he
    simp only [cCode] at hc
    split at hc
    case h_2 => cases hc
    rename_i lv hs0
    split at hc
    case h_2 => cases hc
    rename_i cx hs1 h1
    cases hc
    simp only [evCode, bk] at he
    refine wp_block ?_
    split at he
    · rename_i i s1 hx
      refine wp_mono (ihx hs0 cx hs' h1 s a w L _ s1 hsr hx) fun e' a' w' ⟨k1, L', k2⟩ => ?_
      subst k1
      show if i = id then _ else _
      split at he
      · rename_i hi
        cases he
        rw [if_pos hi]
        exact ⟨rfl, L', k2.kp lv⟩
      · rename_i hi
        cases he
        rw [if_neg hi]
        exact ⟨rfl, L', k2⟩
    · rename_i s1 hx
      cases he
      refine wp_mono (ihx hs0 cx hs' h1 s a w L _ s1 hsr hx) fun e' a' w' ⟨k1, L', k2⟩ => ?_
      subst k1
      exact ⟨rfl, L', k2.kp lv⟩
    · rename_i hn1 hn2
      refine wp_mono (ihx hs0 cx hs' h1 s a w L _ s' hsr he) fun e' a' w' ⟨k1, L', k2⟩ => ?_
      subst k1
      cases e with
      | normal => exact absurd he (fun hh => hn2 s' hh)
      | exit id => exact absurd he (fun hh => hn1 _ s' hh)
      | ret => exact ⟨rfl, L', k2⟩
  | loop x ihx =>
    intro hs ic hs' hc s a w L e s' hsr he
    simp only [cCode] at hc
    split at hc
    case h_2 => cases hc
    rename_i lv hs0
    split at hc
    case h_2 => cases hc
    rename_i cx hs1 h1
    cases hc
    simp only [evCode, loopL] at he
    obtain ⟨n, hn⟩ := lim_some he
    refine wp_loop_rounds n ?_
    have key : ∀ (n : Nat) (s : St) (a : Act) (w : World) (L : Nat → Lc), SR w0 L0 h nt s a w L → loopF (fun s => evCode E h cx s) lv n s = some (e, s') → Code.rounds P x (Ends w0 L0 h nt e s') n a w := by
      intro n
      induction n with
      | zero => intro s a w L _ hh; cases hh
      | succ n ih =>
        intro s a w L hsr hh
        simp only [loopF, sk] at hh
        rw [rounds_succ]
        split at hh
        · rename_i s1 hx
          refine wp_mono (ihx hs0 cx hs' h1 s a w L _ s1 hsr hx) fun e' a' w' ⟨k1, L', k2⟩ => ?_
          subst k1
          exact ih (s1.kp lv) a' w' L' (k2.kp lv) hh
        · rename_i hnn
          refine wp_mono (ihx hs0 cx hs' h1 s a w L _ s' hsr hh) fun e' a' w' ⟨k1, L', k2⟩ => ?_
          subst k1
          cases e with
          | normal => exact absurd hh (fun h => hnn s' h)
          | exit id => exact ⟨rfl, L', k2⟩
          | ret => exact ⟨rfl, L', k2⟩
    exact key n (s.kp lv) a w L (hsr.kp lv) hn
  | _ =>
    intro hs ic hs' hc s a w L e s' hsr he
    simp only [cCode] at hc
    cases hc
    rw [dead_none] at he
    cases he

end
end Go.AM
