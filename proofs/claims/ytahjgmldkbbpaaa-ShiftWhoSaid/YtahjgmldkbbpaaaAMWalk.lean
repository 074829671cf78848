/- The words by which code is walked: what simp needs. -/
import Derived.Test.YtahjgmldkbbpaaaAMTab
set_option linter.unusedSimpArgs false
set_option linter.unusedVariables false
namespace Go.AM
open Go

@[simp] theorem ob_some' {α β : Type} (a : α) (k : α → Option β) : ob (some a) k = k a := rfl
@[simp] theorem ob_none' {α β : Type} (k : α → Option β) : ob none k = none := rfl
@[simp] theorem ob_ite {α β : Type} (c : Prop) [Decidable c] (x y : Option α) (k : α → Option β) : ob (if c then x else y) k = if c then ob x k else ob y k := by split <;> rfl
@[simp] theorem omap_ite {α β : Type} (c : Prop) [Decidable c] (x y : Option α) (f : α → β) : Option.map f (if c then x else y) = if c then Option.map f x else Option.map f y := by split <;> rfl

/-- A loop by its body. -/
noncomputable def loopE (E : FnS) (h : List Blk) (c : IC) (lv : List Nat) (s : St) : Out := loopL (fun s => evCode E h c s) lv s

theorem loopE_eq (E : FnS) (h : List Blk) (c : IC) (lv : List Nat) (s : St) : loopE E h c lv s = sk (evCode E h c s) fun s' => loopE E h c lv (s'.kp lv) := loopL_eq _ lv s

theorem loopE_step {c c' : IC} (hc : c = c') (E : FnS) (h : List Blk) (lv : List Nat) (s : St) : loopE E h c lv s = sk (evCode E h c' s) fun s' => loopE E h c lv (s'.kp lv) := by
  rw [← hc]; exact loopE_eq E h c lv s

section
variable (E : FnS) (h : List Blk) (s : St)
@[simp] theorem evCode_skip : evCode E h .skip s = some (.normal, s) := by simp only [evCode]
@[simp] theorem evCode_exit (id : Nat) : evCode E h (.exit id) s = some (.exit id, s) := by simp only [evCode]
@[simp] theorem evCode_ret : evCode E h .ret s = some (.ret, s) := by simp only [evCode]
@[simp] theorem evCode_reg (lv : List Nat) (ops : List AOper) : evCode E h (.reg lv ops) s = ob (evOps E h ops s) fun s => some (.normal, s.kp lv) := by
  simp only [evCode]; cases evOps E h ops s <;> rfl
@[simp] theorem evCode_drw (lv : List Nat) (nb : Nat) (t : Tree) : evCode E h (.drw lv nb t) s = ob (evLead E h (h.length + s.o.length) lv [] t (pends s nb)) fun s => some (.normal, s) := by
  simp only [evCode]; cases evLead E h (h.length + s.o.length) lv [] t (pends s nb) <;> rfl
@[simp] theorem evCode_seq (a b : IC) : evCode E h (.seq a b) s = sk (evCode E h a s) fun s => evCode E h b s := by simp only [evCode]
@[simp] theorem evCode_cond (lv : List Nat) (c : Opd) (a b : IC) : evCode E h (.cond lv c a b) s = match val s c with
    | some (.g (.bool x)) => kpN lv (if x = true then evCode E h a s else evCode E h b s)
    | _ => none := by simp only [evCode]; rfl
@[simp] theorem evCode_block (lv : List Nat) (id : Nat) (c : IC) : evCode E h (.block lv id c) s = bk lv id (evCode E h c s) := by simp only [evCode]
@[simp] theorem evCode_loop (lv l2 : List Nat) (c : IC) : evCode E h (.loop lv l2 c) s = loopE E h c lv (s.kp lv) := by simp only [evCode, loopE]
end

attribute [simp] sk_normal sk_exit sk_ret sk_none sk_ite kpN_normal kpN_exit kpN_ret kpN_ite bk_normal bk_exit bk_ret bk_ite
attribute [simp] evOps evOne gdo exOp AOp.acts evP evTake AM.val AM.vals AM.look AM.keep St.put St.kp initT
attribute [simp] rvVs rvV tupV frz3 frz2 frz1 frz0 AV.lt1 AV.lt0

@[simp] theorem kpN_none (lv : List Nat) : kpN lv none = none := rfl
@[simp] theorem bk_none (lv : List Nat) (id : Nat) : bk lv id none = none := rfl
/-- How a function's code ends. -/
def finE (H : List Blk) (rs : List RV) (esc : Bool) (s : St) : Option Res :=
  ob (rvVs H s rs) fun vs => if esc = true then some ⟨tupV vs, s.m, s.o⟩ else
    ob (frz3 H s vs) fun vs => if (s.m.all fun p => p.2.lt1 H.length) = true then some ⟨tupV vs, s.m, []⟩ else none

def fnEnd (H : List Blk) (rs : List RV) (esc : Bool) (r : Out) : Option Res :=
  match r with
  | some (.ret, s) => finE H rs esc s
  | some (.normal, s) => finE H rs esc s
  | _ => none
@[simp] theorem fnEnd_ret (H : List Blk) (rs : List RV) (esc : Bool) (s : St) : fnEnd H rs esc (some (.ret, s)) = finE H rs esc s := rfl
@[simp] theorem fnEnd_normal (H : List Blk) (rs : List RV) (esc : Bool) (s : St) : fnEnd H rs esc (some (.normal, s)) = finE H rs esc s := rfl
@[simp] theorem fnEnd_none (H : List Blk) (rs : List RV) (esc : Bool) : fnEnd H rs esc none = none := rfl
@[simp] theorem fnEnd_ite (H : List Blk) (rs : List RV) (esc : Bool) (c : Prop) [Decidable c] (a b : Out) : fnEnd H rs esc (if c then a else b) = if c then fnEnd H rs esc a else fnEnd H rs esc b := by split <;> rfl
attribute [simp] finE

theorem finish_finE (H : List Blk) (F : IFunc) (s : St) : finish H F s = finE H F.rs F.esc s := by
  unfold finish finE
  cases rvVs H s F.rs with
  | none => rfl
  | some vs =>
    simp only [ob_some']
    split
    · rfl
    · cases frz3 H s vs <;> rfl

theorem evBody_end (E : FnS) (F : IFunc) (args : List AV) (H : List Blk) (hl : args.length ≤ F.nt) : evBody E F args H = fnEnd H F.rs F.esc (evCode E H F.body ⟨initT 0 args, [], []⟩) := by
  unfold evBody fnEnd
  rw [if_pos hl]
  rcases evCode E H F.body ⟨initT 0 args, [], []⟩ with _ | ⟨e, s⟩
  · rfl
  · cases e
    · exact finish_finE H F s
    · rfl
    · exact finish_finE H F s

/-- The beginning of a function's walk. -/
theorem EvF_walk {T : Tab} {f : FuncId} {np nt : Nat} {rs : List RV} {esc : Bool} {c : IC} (hF : T.T f = some ⟨np, nt, rs, esc, c⟩) {args : List AV} {H : List Blk} {r : Res} (hl : args.length ≤ nt)
    (h : fnEnd H rs esc (evCode (EvF T) H c ⟨initT 0 args, [], []⟩) = some r) : EvF T f args H = some r :=
  EvF_body hF (by rw [evBody_end _ _ _ _ hl]; exact h)

/-! ### Calls -/
@[simp] theorem evCall_fn (E : FnS) (h : List Blk) (s : St) (f : FuncId) (xs : List AV) : evCall E h [] s (.g (.fn f)) xs = fin h [] s (E f xs (full h s)) := by simp [evCall, hideB]
@[simp] theorem fin_plain (h : List Blk) (hd : List Nat) (s : St) (r : AV) : fin h hd s (some ⟨r, [], []⟩) = some (r, s, []) := by simp [fin, setAll, St.app]
@[simp] theorem fin_none (h : List Blk) (hd : List Nat) (s : St) : fin h hd s none = none := rfl
@[simp] theorem fin_ite (h : List Blk) (hd : List Nat) (s : St) (c : Prop) [Decidable c] (a b : Option Res) : fin h hd s (if c then a else b) = if c then fin h hd s a else fin h hd s b := by split <;> rfl

/-! ### Own blocks -/
@[simp] theorem getB_own0 (h : List Blk) (t : List (Nat × AV)) (m : List (Nat × Blk)) (o : List Blk) : getB h ⟨t, m, o⟩ h.length = o[0]? := by simp [getB]
@[simp] theorem getB_own (h : List Blk) (t : List (Nat × AV)) (m : List (Nat × Blk)) (o : List Blk) (k : Nat) : getB h ⟨t, m, o⟩ (h.length + k) = o[k]? := by
  have : ¬ h.length + k < h.length := by omega
  simp [getB, this]
@[simp] theorem setB_own0 (h : List Blk) (t : List (Nat × AV)) (m : List (Nat × Blk)) (o : List Blk) (b : Blk) : setB h ⟨t, m, o⟩ h.length b = ⟨t, m, o.set 0 b⟩ := by simp [setB]
@[simp] theorem setB_own (h : List Blk) (t : List (Nat × AV)) (m : List (Nat × Blk)) (o : List Blk) (k : Nat) (b : Blk) : setB h ⟨t, m, o⟩ (h.length + k) b = ⟨t, m, o.set k b⟩ := by
  have : ¬ h.length + k < h.length := by omega
  simp [setB, this]
attribute [simp] lenV cur viewN evI storeV St.push St.next AV.cellsO AV.leaf grounds binV shiftOp intOp strOp isNil eqV eqL eqG sub AM.one

end Go.AM
