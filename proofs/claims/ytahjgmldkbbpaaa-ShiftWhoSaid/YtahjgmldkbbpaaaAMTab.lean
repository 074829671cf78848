/- Tables of functions, and the words by which code is walked. -/
import Derived.Test.YtahjgmldkbbpaaaAMLaw
set_option linter.unusedSimpArgs false
set_option linter.unusedVariables false
namespace Go.AM
open Go

def lookF : List (Nat × IFunc) → Nat → Option IFunc
  | [], _ => none
  | (k, F) :: r, f => if k = f then some F else lookF r f

def AllC (P : Program) : List (Nat × IFunc) → Prop
  | [] => True
  | p :: r => (∃ esc hints, cFunc P p.1 esc hints = some p.2) ∧ AllC P r

theorem tab_ok {P : Program} (hm : P.follows .mixedOrders = true) : ∀ {l : List (Nat × IFunc)}, AllC P l → ∀ f F, lookF l f = some F → ∃ esc hints, cFunc P f esc hints = some F
  | [], _, f, F, h => by cases h
  | (k, G) :: r, ⟨h1, h2⟩, f, F, h => by
    simp only [lookF] at h
    split at h
    · rename_i e
      subst e
      cases h
      exact h1
    · exact tab_ok hm h2 f F h

/-! ### The words of a walk -/
theorem look_nil (i : Nat) : look [] i = none := rfl
theorem look_cons (a i : Nat) (v : AV) (t : List (Nat × AV)) : look ((a, v) :: t) i = if a = i then some v else look t i := rfl
theorem keep_nil (T : List (Nat × AV)) : keep T [] = [] := rfl
theorem keep_cons (T : List (Nat × AV)) (i : Nat) (l : List Nat) : keep T (i :: l) = match look T i with
    | some v => (i, v) :: keep T l
    | none => keep T l := rfl
theorem sk_normal (s : St) (k : St → Out) : sk (some (.normal, s)) k = k s := rfl
theorem sk_exit (i : Nat) (s : St) (k : St → Out) : sk (some (.exit i, s)) k = some (.exit i, s) := rfl
theorem sk_ret (s : St) (k : St → Out) : sk (some (.ret, s)) k = some (.ret, s) := rfl
theorem sk_none (k : St → Out) : sk none k = none := rfl
theorem sk_ite (c : Prop) [Decidable c] (a b : Out) (k : St → Out) : sk (if c then a else b) k = if c then sk a k else sk b k := by split <;> rfl
theorem kpN_normal (lv : List Nat) (s : St) : kpN lv (some (.normal, s)) = some (.normal, s.kp lv) := rfl
theorem kpN_exit (lv : List Nat) (i : Nat) (s : St) : kpN lv (some (.exit i, s)) = some (.exit i, s) := rfl
theorem kpN_ret (lv : List Nat) (s : St) : kpN lv (some (.ret, s)) = some (.ret, s) := rfl
theorem kpN_ite (lv : List Nat) (c : Prop) [Decidable c] (a b : Out) : kpN lv (if c then a else b) = if c then kpN lv a else kpN lv b := by split <;> rfl
theorem bk_normal (lv : List Nat) (id : Nat) (s : St) : bk lv id (some (.normal, s)) = some (.normal, s.kp lv) := rfl
theorem bk_exit (lv : List Nat) (id i : Nat) (s : St) : bk lv id (some (.exit i, s)) = if i = id then some (.normal, s.kp lv) else some (.exit i, s) := rfl
theorem bk_ret (lv : List Nat) (id : Nat) (s : St) : bk lv id (some (.ret, s)) = some (.ret, s) := rfl
theorem bk_ite (lv : List Nat) (id : Nat) (c : Prop) [Decidable c] (a b : Out) : bk lv id (if c then a else b) = if c then bk lv id a else bk lv id b := by split <;> rfl

end Go.AM
