/- The evaluator as a program that runs; what it says, the evaluator says. -/
import Derived.Test.YtahjgmldkbbpaaaAMSnd8
set_option linter.unusedSimpArgs false
set_option linter.unusedVariables false
namespace Go.AM
open Go

mutual
def GV.eqb : GV → GV → Bool
  | .bool a, .bool b => a == b
  | .int k a, .int k' b => decide (k = k') && decide (a = b)
  | .str a, .str b => decide (a = b)
  | .sl n a, .sl m b => n == m && eqbLL a b
  | .nsl, .nsl | .nptr, .nptr | .nmap, .nmap | .nfn, .nfn | .nif, .nif => true
  | .fn f, .fn g => decide (f = g)
  | .ifc t v, .ifc u x => decide (t = u) && GV.eqb v x
  | _, _ => false
def eqbL : List GV → List GV → Bool
  | [], [] => true
  | a :: as, b :: bs => GV.eqb a b && eqbL as bs
  | _, _ => false
def eqbLL : List (List GV) → List (List GV) → Bool
  | [], [] => true
  | a :: as, b :: bs => eqbL a b && eqbLL as bs
  | _, _ => false
end

mutual
theorem GV.eqb_eq : ∀ a b : GV, GV.eqb a b = true → a = b
  | .bool a, b, h => by cases b <;> simp [GV.eqb] at h; rw [h]
  | .int k a, b, h => by cases b <;> simp [GV.eqb] at h; rw [h.1, h.2]
  | .str a, b, h => by cases b <;> simp [GV.eqb] at h; rw [h]
  | .sl n a, b, h => by
    cases b <;> simp [GV.eqb] at h
    rename_i m b
    rw [h.1, eqbLL_eq a b h.2]
  | .nsl, b, h => by cases b <;> simp [GV.eqb] at h; rfl
  | .nptr, b, h => by cases b <;> simp [GV.eqb] at h; rfl
  | .nmap, b, h => by cases b <;> simp [GV.eqb] at h; rfl
  | .nfn, b, h => by cases b <;> simp [GV.eqb] at h; rfl
  | .nif, b, h => by cases b <;> simp [GV.eqb] at h; rfl
  | .fn f, b, h => by cases b <;> simp [GV.eqb] at h; rw [h]
  | .ifc t v, b, h => by
    cases b <;> simp [GV.eqb] at h
    rename_i u x
    rw [h.1, GV.eqb_eq v x h.2]
theorem eqbL_eq : ∀ a b : List GV, eqbL a b = true → a = b
  | [], b, h => by cases b <;> simp [eqbL] at h; rfl
  | a :: as, b, h => by
    cases b <;> simp [eqbL] at h
    rename_i x xs
    rw [GV.eqb_eq a x h.1, eqbL_eq as xs h.2]
theorem eqbLL_eq : ∀ a b : List (List GV), eqbLL a b = true → a = b
  | [], b, h => by cases b <;> simp [eqbLL] at h; rfl
  | a :: as, b, h => by
    cases b <;> simp [eqbLL] at h
    rename_i x xs
    rw [eqbL_eq a x h.1, eqbLL_eq as xs h.2]
end

mutual
def AV.eqb : AV → AV → Bool
  | .g a, .g b => GV.eqb a b
  | .agg a, .agg b => eqbA a b
  | .tup a, .tup b => eqbA a b
  | .cp a, .cp b => eqbL a b
  | .ptr a b, .ptr c d => a == c && b == d
  | .ms a b c d e, .ms a' b' c' d' e' => a == a' && b == b' && c == c' && d == d' && e == e'
  | .rp a b c d e, .rp a' b' c' d' e' => a == a' && b == b' && c == c' && d == d' && e == e'
  | .fv f a, .fv g b => decide (f = g) && eqbA a b
  | .ifa t v, .ifa u x => decide (t = u) && AV.eqb v x
  | .mp a, .mp b => a == b
  | .undef, .undef => true
  | _, _ => false
def eqbA : List AV → List AV → Bool
  | [], [] => true
  | a :: as, b :: bs => AV.eqb a b && eqbA as bs
  | _, _ => false
end

mutual
theorem AV.eqb_eq : ∀ a b : AV, AV.eqb a b = true → a = b
  | .g a, b, h => by cases b <;> simp [AV.eqb] at h; rw [GV.eqb_eq _ _ h]
  | .agg a, b, h => by
    cases b <;> simp [AV.eqb] at h
    rename_i b
    rw [eqbA_eq a b h]
  | .tup a, b, h => by
    cases b <;> simp [AV.eqb] at h
    rename_i b
    rw [eqbA_eq a b h]
  | .cp a, b, h => by cases b <;> simp [AV.eqb] at h; rw [eqbL_eq _ _ h]
  | .ptr a c, b, h => by cases b <;> simp [AV.eqb] at h; rw [h.1, h.2]
  | .ms a c d e f, b, h => by cases b <;> simp [AV.eqb] at h; obtain ⟨⟨⟨⟨rfl, rfl⟩, rfl⟩, rfl⟩, rfl⟩ := h; rfl
  | .rp a c d e f, b, h => by cases b <;> simp [AV.eqb] at h; obtain ⟨⟨⟨⟨rfl, rfl⟩, rfl⟩, rfl⟩, rfl⟩ := h; rfl
  | .fv f a, b, h => by
    cases b <;> simp [AV.eqb] at h
    rename_i g b
    rw [h.1, eqbA_eq a b h.2]
  | .via .., b, h => by cases b <;> simp [AV.eqb] at h
  | .ifa t v, b, h => by
    cases b <;> simp [AV.eqb] at h
    rename_i u x
    rw [h.1, AV.eqb_eq v x h.2]
  | .mp a, b, h => by cases b <;> simp [AV.eqb] at h; rw [h]
  | .undef, b, h => by cases b <;> simp [AV.eqb] at h; rfl
theorem eqbA_eq : ∀ a b : List AV, eqbA a b = true → a = b
  | [], b, h => by cases b <;> simp [eqbA] at h; rfl
  | a :: as, b, h => by
    cases b <;> simp [eqbA] at h
    rename_i x xs
    rw [AV.eqb_eq a x h.1, eqbA_eq as xs h.2]
end

def eqbM : List (GV × GV) → List (GV × GV) → Bool
  | [], [] => true
  | a :: as, b :: bs => GV.eqb a.1 b.1 && GV.eqb a.2 b.2 && eqbM as bs
  | _, _ => false

def Blk.eqb : Blk → Blk → Bool
  | .cells a, .cells b => eqbA a b
  | .rows a b c, .rows a' b' c' => a == a' && b == b' && eqbLL c c'
  | .fro a b c, .fro a' b' c' => a == a' && b == b' && eqbLL c c'
  | .map a, .map b => eqbM a b
  | .pend, .pend => true
  | .hid, .hid => true
  | _, _ => false

theorem eqbM_eq : ∀ a b, eqbM a b = true → a = b
  | [], b, h => by cases b <;> simp [eqbM] at h; rfl
  | a :: as, b, h => by
    cases b <;> simp [eqbM] at h
    rename_i x xs
    rw [eqbM_eq as xs h.2, Prod.ext (GV.eqb_eq _ _ h.1.1) (GV.eqb_eq _ _ h.1.2)]

theorem Blk.eqb_eq (a b : Blk) (h : Blk.eqb a b = true) : a = b := by
  cases a <;> cases b <;> simp [Blk.eqb] at h
  · rw [eqbA_eq _ _ h]
  · rw [h.1.1, h.1.2, eqbLL_eq _ _ h.2]
  · rw [h.1.1, h.1.2, eqbLL_eq _ _ h.2]
  · rw [eqbM_eq _ _ h]
  · rfl
  · rfl

def eqbT : List (Nat × AV) → List (Nat × AV) → Bool
  | [], [] => true
  | a :: as, b :: bs => a.1 == b.1 && AV.eqb a.2 b.2 && eqbT as bs
  | _, _ => false
def eqbB : List (Nat × Blk) → List (Nat × Blk) → Bool
  | [], [] => true
  | a :: as, b :: bs => a.1 == b.1 && Blk.eqb a.2 b.2 && eqbB as bs
  | _, _ => false
def eqbO : List Blk → List Blk → Bool
  | [], [] => true
  | a :: as, b :: bs => Blk.eqb a b && eqbO as bs
  | _, _ => false
theorem eqbT_eq : ∀ a b, eqbT a b = true → a = b
  | [], b, h => by cases b <;> simp [eqbT] at h; rfl
  | a :: as, b, h => by
    cases b <;> simp [eqbT] at h
    rename_i x xs
    rw [eqbT_eq as xs h.2, Prod.ext h.1.1 (AV.eqb_eq _ _ h.1.2)]
theorem eqbB_eq : ∀ a b, eqbB a b = true → a = b
  | [], b, h => by cases b <;> simp [eqbB] at h; rfl
  | a :: as, b, h => by
    cases b <;> simp [eqbB] at h
    rename_i x xs
    rw [eqbB_eq as xs h.2, Prod.ext h.1.1 (Blk.eqb_eq _ _ h.1.2)]
theorem eqbO_eq : ∀ a b, eqbO a b = true → a = b
  | [], b, h => by cases b <;> simp [eqbO] at h; rfl
  | a :: as, b, h => by
    cases b <;> simp [eqbO] at h
    rename_i x xs
    rw [eqbO_eq as xs h.2, Blk.eqb_eq _ _ h.1]

def St.eqb (a b : St) : Bool := eqbT a.t b.t && eqbB a.m b.m && eqbO a.o b.o
theorem St.eqb_eq {a b : St} (h : a.eqb b = true) : a = b := by
  obtain ⟨a1, a2, a3⟩ := a
  obtain ⟨b1, b2, b3⟩ := b
  simp only [St.eqb, Bool.and_eq_true] at h
  rw [eqbT_eq _ _ h.1.1, eqbB_eq _ _ h.1.2, eqbO_eq _ _ h.2]

def rTree (E : FnS) (h : List Blk) (nb : Nat) (lv : List Nat) : List Nat → Tree → St → Option St
  | _, .leaf, s => some (s.kp lv)
  | _, .free t, s => rTree E h nb lv [] t s
  | hd, .take o t, s => match evTake h s o with
    | some (s', _) => rTree E h nb lv hd t s'
    | none => none
  | hd, .one o t, s => match evOne E h nb hd s o with
    | some (s', ws) => if (ws.all fun i => !hd.contains i) = true then rTree E h nb lv hd t s' else none
    | none => none
  | hd, .alt o t r, s => match evOne E h nb hd s o with
    | some (s', ws) => if (ws.all fun i => !hd.contains i) = true then
        (match rTree E h nb lv hd t s', rTree E h nb lv hd r s with
          | some x, some y => if x.eqb y = true then some x else none
          | _, _ => none) else none
    | none => none

def rLead (E : FnS) (h : List Blk) (nb : Nat) (lv : List Nat) (hd : List Nat) : Tree → St → Option St
  | .take o t, s => match evTake h s o with
    | some (s', rs) => rLead E h nb lv (rs ++ hd) t s'
    | none => none
  | t, s => if (hd.all (isLiveB (full h s))) = true then rTree E h nb lv hd t s else none

def rCode (E : FnS) (n : Nat) (h : List Blk) : IC → St → Out
  | .skip, s => some (.normal, s)
  | .reg lv ops, s => kpN lv (nrm (evOps E h ops s))
  | .drw lv nb t, s => nrm (rLead E h (h.length + s.o.length) lv [] t (pends s nb))
  | .seq a b, s => sk (rCode E n h a s) fun s' => rCode E n h b s'
  | .cond lv c a b, s => match val s c with
    | some (.g (.bool x)) => kpN lv (if x = true then rCode E n h a s else rCode E n h b s)
    | _ => none
  | .block lv id c, s => bk lv id (rCode E n h c s)
  | .loop lv _ c, s => loopF (fun s => rCode E n h c s) lv n (s.kp lv)
  | .exit id, s => some (.exit id, s)
  | .ret, s => some (.ret, s)

def rBody (E : FnS) (n : Nat) (F : IFunc) (args : List AV) (H : List Blk) : Option Res :=
  if args.length ≤ F.nt then
    match rCode E n H F.body ⟨initT 0 args, [], []⟩ with
    | some (.ret, s) => finish H F s
    | some (.normal, s) => finish H F s
    | _ => none
  else none

def rF (T : Tab) (k : Nat) : Nat → FnS
  | 0 => fun _ _ _ => none
  | n + 1 => fun f args H => match T.T f with
    | some F => rBody (rF T k n) k F args H
    | none => T.X f args H

section
variable {E : FnS} {h : List Blk} {nb : Nat} {hd lv : List Nat}

theorem rTree_ev : ∀ (hd : List Nat) (t : Tree) (s r : St), rTree E h nb lv hd t s = some r → evTree E h nb lv hd t s = some r
  | hd, .leaf, s, r, he => by simpa only [evTree, rTree] using he
  | hd, .free t, s, r, he => by
    simp only [rTree] at he
    simp only [evTree]
    exact rTree_ev [] t s r he
  | hd, .take o t, s, r, he => by
    simp only [rTree] at he
    split at he
    case h_2 => cases he
    rename_i s' rs h1
    simp only [evTree, h1]
    exact rTree_ev hd t _ r he
  | hd, .one o t, s, r, he => by
    simp only [rTree] at he
    split at he
    case h_2 => cases he
    rename_i s' ws h1
    split at he
    case isFalse => cases he
    rename_i hw
    simp only [evTree, h1, if_pos hw]
    exact rTree_ev hd t _ r he
  | hd, .alt o t t2, s, r, he => by
    simp only [rTree] at he
    split at he
    case h_2 => cases he
    rename_i s' ws h1
    split at he
    case isFalse => cases he
    rename_i hw
    split at he
    case h_2 => cases he
    rename_i x y hx hy
    split at he
    case isFalse => cases he
    rename_i hxy
    cases he
    have := St.eqb_eq hxy
    subst this
    simp only [evTree, h1, if_pos hw, rTree_ev hd t _ _ hx, rTree_ev hd t2 _ _ hy, if_true]

theorem rLead_ev : ∀ (t : Tree) (hd : List Nat) (s r : St), rLead E h nb lv hd t s = some r → evLead E h nb lv hd t s = some r
  | .take o t, hd, s, r, he => by
    simp only [rLead] at he
    split at he
    case h_2 => cases he
    rename_i s' rs h1
    simp only [evLead, h1]
    exact rLead_ev t _ _ r he
  | .leaf, hd, s, r, he | .free _, hd, s, r, he | .one _ _, hd, s, r, he | .alt _ _ _, hd, s, r, he => by
    simp only [rLead] at he
    simp only [evLead]
    split at he
    case isFalse => cases he
    rename_i hl
    rw [if_pos hl]
    exact rTree_ev _ _ s r he

theorem rCode_ev (n : Nat) : ∀ (c : IC) (s : St) (r : Ex × St), rCode E n h c s = some r → evCode E h c s = some r
  | .skip, s, r, he => by simpa only [evCode, rCode] using he
  | .exit _, s, r, he => by simpa only [evCode, rCode] using he
  | .ret, s, r, he => by simpa only [evCode, rCode] using he
  | .reg lv ops, s, r, he => by simpa only [evCode, rCode] using he
  | .drw lv nb t, s, r, he => by
    simp only [rCode] at he
    simp only [evCode]
    cases hq : rLead E h (h.length + s.o.length) lv [] t (pends s nb) with
    | none => rw [hq] at he; cases he
    | some s' => rw [hq] at he; rw [rLead_ev _ _ _ _ hq]; exact he
  | .seq a b, s, r, he => by
    simp only [rCode] at he
    simp only [evCode]
    rcases sk_inv he with ⟨s1, h1, h2⟩ | ⟨h1, h2⟩
    · rw [rCode_ev n a s _ h1]; exact rCode_ev n b s1 r h2
    · exact sk_of (rCode_ev n a s _ h1) h2
  | .cond lv c a b, s, r, he => by
    simp only [rCode] at he
    split at he
    case h_2 => cases he
    rename_i x hx
    simp only [evCode, hx]
    cases x with
    | true =>
      simp only [if_true] at he ⊢
      cases hq : rCode E n h a s with
      | none => rw [hq] at he; cases he
      | some s' => rw [hq] at he; rw [rCode_ev n a s _ hq]; exact he
    | false =>
      simp only [Bool.false_eq_true, if_false] at he ⊢
      cases hq : rCode E n h b s with
      | none => rw [hq] at he; cases he
      | some s' => rw [hq] at he; rw [rCode_ev n b s _ hq]; exact he
  | .block lv id c, s, r, he => by
    simp only [rCode] at he
    simp only [evCode]
    cases hq : rCode E n h c s with
    | none => rw [hq] at he; cases he
    | some s' => rw [hq] at he; rw [rCode_ev n c s _ hq]; exact he
  | .loop lv _ c, s, r, he => by
    simp only [rCode] at he
    simp only [evCode]
    have key : ∀ (m : Nat) (s : St), loopF (fun s => rCode E n h c s) lv m s = some r → loopF (fun s => evCode E h c s) lv m s = some r := by
      intro m
      induction m with
      | zero => intro s hh; cases hh
      | succ m ih =>
        intro s hh
        simp only [loopF] at hh ⊢
        rcases sk_inv hh with ⟨s1, h1, h2⟩ | ⟨h1, h2⟩
        · rw [rCode_ev n c s _ h1]; exact ih _ h2
        · exact sk_of (rCode_ev n c s _ h1) h2
    exact loopL_of (key n _ he)

theorem rBody_ev {n : Nat} {F : IFunc} {args : List AV} {H : List Blk} {r : Res} (he : rBody E n F args H = some r) : evBody E F args H = some r := by
  unfold rBody at he
  unfold evBody
  split at he
  case isFalse => cases he
  rename_i hl
  rw [if_pos hl]
  cases hq : rCode E n H F.body ⟨initT 0 args, [], []⟩ with
  | none => rw [hq] at he; cases he
  | some x => rw [hq] at he; rw [rCode_ev n _ _ _ hq]; exact he
end

theorem rF_ev (T : Tab) (k : Nat) : ∀ (n : Nat) (f : FuncId) (args : List AV) (H : List Blk) (r : Res), rF T k n f args H = some r → evF T n f args H = some r
  | 0, _, _, _, _, h => by cases h
  | n + 1, f, args, H, r, h => by
    simp only [rF] at h
    split at h
    · rename_i F hF
      have h1 := rBody_ev h
      obtain ⟨l, h2, h3⟩ := evBody_hangs h1
      simp only [evF, hF]
      exact h3 _ fun q hq => rF_ev T k n _ _ _ _ (h2 q hq)
    · rename_i hF
      simp only [evF, hF]
      exact h

/-- What the running program answers, the functions answer. -/
theorem EvF_run {T : Tab} {k n : Nat} {f : FuncId} {args : List AV} {H : List Blk} {r : Res} (h : rF T k n f args H = some r) : EvF T f args H = some r :=
  EvF_of (rF_ev T k n f args H r h)

end Go.AM
