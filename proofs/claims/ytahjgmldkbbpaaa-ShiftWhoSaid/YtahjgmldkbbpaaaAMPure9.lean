/- The operations that leave memory as it is, all of them: the theorem. -/
import Derived.Test.YtahjgmldkbbpaaaAMPure8
set_option linter.unusedSimpArgs false
set_option linter.unusedVariables false
namespace Go.AM
open Go

section
variable {P : Program} {h : List Blk} {s : St} {a : Act} {w : World} {L : Nat → Lc} {v : AV} {rs : List Nat} {drw : Option Nat}

theorem cOpds_cons {x : Operand} {l : List Operand} {X : List Opd} (hx : cOpds (x :: l) = some X) : ∃ Y Ys, X = Y :: Ys ∧ cOpd x = some Y ∧ cOpds l = some Ys := by
  simp only [cOpds] at hx
  cases h1 : cOpd x with
  | none => simp [h1] at hx
  | some Y => cases h2 : cOpds l with
    | none => simp [h1, h2] at hx
    | some Ys => simp [h1, h2] at hx; exact ⟨Y, Ys, hx.symm, rfl, rfl⟩

theorem cOpds_one {l : List Operand} {X : Opd} (hx : cOpds l = some [X]) : ∃ x, l = [x] ∧ cOpd x = some X := by
  cases l with
  | nil => simp [cOpds] at hx
  | cons x l =>
    obtain ⟨Y, Ys, e, h1, h2⟩ := cOpds_cons hx
    cases l with
    | nil => simp [cOpds] at h2; subst h2; cases e; exact ⟨x, rfl, h1⟩
    | cons y l => obtain ⟨_, _, e', _, _⟩ := cOpds_cons h2; subst e'; cases e

theorem cOpds_two {l : List Operand} {X Y : Opd} (hx : cOpds l = some [X, Y]) : ∃ x y, l = [x, y] ∧ cOpd x = some X ∧ cOpd y = some Y := by
  cases l with
  | nil => simp [cOpds] at hx
  | cons x l =>
    obtain ⟨Z, Zs, e, h1, h2⟩ := cOpds_cons hx
    cases e
    obtain ⟨y, rfl, hy⟩ := cOpds_one h2
    exact ⟨x, y, rfl, h1, hy⟩

theorem mx2_ok {E : Env} (x y v : AV) (cx cy : Value) (h : mx2 x y = some v) (hx : AR E x cx) (hy : AR E y cy) : ∃ cv, AR E v cv ∧ ∀ w', (Builtin.max2 cx cy).run P w' = .ok cv w' := by
  unfold mx2 at h
  split at h
  · cases h
    rw [hx.inv_g.inv_int, hy.inv_g.inv_int]
    exact ⟨_, .g (.int _ _), fun w' => by simp [Builtin.max2]⟩
  · cases h

theorem mn2_ok {E : Env} (x y v : AV) (cx cy : Value) (h : mn2 x y = some v) (hx : AR E x cx) (hy : AR E y cy) : ∃ cv, AR E v cv ∧ ∀ w', (Builtin.min2 cx cy).run P w' = .ok cv w' := by
  unfold mn2 at h
  split at h
  · cases h
    rw [hx.inv_g.inv_int, hy.inv_g.inv_int]
    exact ⟨_, .g (.int _ _), fun w' => by simp [Builtin.min2]⟩
  · cases h

theorem y_builtin (hr : HR w (full h s) L) (ht : TR (envOf w (full h s) L) a s.t) {dst : Option Tmp} {ty : TypeId} {pos : String} {after : Array Edge} {gd : Option (Nat × Bool)} {b : Builtin} {cargs : Array Operand} {cts : Array TypeId} {xs : List Opd} {ao : AOp} (hxs : cOpds cargs.toList = some xs) (hc : cBuiltin P b cts xs = some ao)
    (he : evP h s ao = some (v, rs)) : Yl P (envOf w (full h s) L) ⟨dst, .call ⟨.builtin b, cargs, cts⟩, ty, pos, after, gd⟩ a v rs := by
  have hrun : ∀ (v : AV) (rs : List Nat) (cv : Value), AR (envOf w (full h s) L) v cv → (∀ w', (builtin b cts ty (cargs.map fun | .const _ => true | _ => false) (cargs.map a.eval)).run P w' = .ok (.value cv) w') →
      Yl P (envOf w (full h s) L) ⟨dst, .call ⟨.builtin b, cargs, cts⟩, ty, pos, after, gd⟩ a v rs := by
    intro v rs cv h1 h2
    refine ⟨cv, h1, fun w' _ => ?_⟩
    simp only [execOp, resolve, pure_bind, invoke]
    exact h2 w'
  have harr : ∀ (l : List Operand), cargs.toList = l → cargs.map a.eval = (l.map a.eval).toArray := by
    intro l hl; subst hl; rw [← Array.toList_map, Array.toArray_toList]
  have h0 : 0 < cts.size → cts[0]? = some (cts.getD 0 0) := fun hlt => by rw [Array.getD_eq_getD_getElem?, Array.getElem?_eq_getElem hlt]; rfl
  unfold cBuiltin at hc
  cases b <;> (try (cases hc; done)) <;> dsimp only at hc
  case len =>
    split at hc
    · rename_i X hu
      obtain ⟨x, hl, hx⟩ := cOpds_one hxs
      split at hc
      · rename_i hsz
        cases hc
        simp only [evP] at he
        split at he
        · rename_i bs hX
          cases he
          refine hrun _ _ _ (.g (.int _ _)) (fun w' => ?_)
          rw [harr _ hl]
          have ha0 : ([x].map a.eval).toArray[0]? = some (a.eval x) := rfl
          simp only [builtin]
          rw [Sem.run_bind]
          unfold Builtin.len_
          simp only [h0 (by omega), ha0, Sem.run_bind, run_underlying hu, Result.andThen_ok, (cOpd_ok ht hx hX).inv_g.inv_str]
          simp [goInt]
          show ((bs.toArray.size : Nat) : Int) = _
          simp
        · cases he
      · cases hc
    · rename_i X e hu
      obtain ⟨x, hl, hx⟩ := cOpds_one hxs
      split at hc
      · rename_i hsz
        cases hc
        simp only [evP] at he
        split at he
        · rename_i q hX
          cases hn : lenV h s q with
          | none => simp [hn] at he
          | some n =>
            simp [hn] at he
            obtain ⟨rfl, rfl⟩ := he
            obtain ⟨A, cap, e1⟩ := len_ok hr hn (cOpd_ok ht hx hX)
            refine hrun _ _ _ (.g (.int _ _)) (fun w' => ?_)
            rw [harr _ hl]
            have ha0 : ([x].map a.eval).toArray[0]? = some (a.eval x) := rfl
            simp only [builtin]
            rw [Sem.run_bind]
            unfold Builtin.len_
            simp only [h0 (by omega), ha0, Sem.run_bind, run_underlying hu, Result.andThen_ok, e1]
            simp [goInt]
        · cases he
      · cases hc
    · cases hc
  case cap =>
    split at hc
    · rename_i X e hu
      obtain ⟨x, hl, hx⟩ := cOpds_one hxs
      split at hc
      · rename_i hsz
        cases hc
        simp only [evP] at he
        split at he
        · rename_i hX
          cases he
          have hq := (cOpd_ok ht hx hX).inv_g
          generalize hcx : a.eval x = cx at hq
          cases hq
          refine hrun _ _ _ (.g (.int _ _)) (fun w' => ?_)
          rw [harr _ hl]
          have ha0 : ([x].map a.eval).toArray[0]? = some (a.eval x) := rfl
          simp only [builtin]
          rw [Sem.run_bind]
          unfold Builtin.cap_
          simp only [h0 (by omega), ha0, Sem.run_bind, run_underlying hu, Result.andThen_ok, hcx]
          simp [goInt]
        · cases he
      · cases hc
    · cases hc
  case max =>
    split at hc
    · rename_i X Xs
      cases hc
      obtain ⟨x, l, hl⟩ : ∃ x l, cargs.toList = x :: l := by
        cases hq : cargs.toList with
        | nil => rw [hq] at hxs; simp [cOpds] at hxs
        | cons x l => exact ⟨x, l, rfl⟩
      rw [hl] at hxs
      obtain ⟨Y, Ys, e, hx, hxs'⟩ := cOpds_cons hxs
      cases e
      simp only [evP] at he
      cases hvs : vals s Xs with
      | none => simp [hvs] at he
      | some vs =>
        simp only [hvs] at he
        obtain ⟨hf, rfl⟩ := one_map he
        obtain ⟨k1, k2⟩ := cOpds_vals ht hxs' hvs
        cases hX : val s X with
        | none => rw [hX] at hf; cases vs <;> simp [foldV] at hf
        | some q =>
          rw [hX] at hf
          obtain ⟨cv, r1, r2⟩ := fold_ok (P := P) mx2 Builtin.max2 (mx2_ok (P := P)) vs (l.map a.eval) q v (a.eval x) hf (cOpd_ok ht hx hX) (by simpa using k1) (fun j a' c' e1 e2 => by
            simp at e2
            obtain ⟨y, hy, rfl⟩ := e2
            exact k2 j y a' hy e1)
          refine hrun _ _ cv r1 (fun w' => ?_)
          rw [harr _ hl]
          simp only [builtin]
          rw [Sem.run_bind]
          unfold Builtin.max_
          simp [r2]
    · cases hc
  case min =>
    split at hc
    · rename_i X Xs
      cases hc
      obtain ⟨x, l, hl⟩ : ∃ x l, cargs.toList = x :: l := by
        cases hq : cargs.toList with
        | nil => rw [hq] at hxs; simp [cOpds] at hxs
        | cons x l => exact ⟨x, l, rfl⟩
      rw [hl] at hxs
      obtain ⟨Y, Ys, e, hx, hxs'⟩ := cOpds_cons hxs
      cases e
      simp only [evP] at he
      cases hvs : vals s Xs with
      | none => simp [hvs] at he
      | some vs =>
        simp only [hvs] at he
        obtain ⟨hf, rfl⟩ := one_map he
        obtain ⟨k1, k2⟩ := cOpds_vals ht hxs' hvs
        cases hX : val s X with
        | none => rw [hX] at hf; cases vs <;> simp [foldV] at hf
        | some q =>
          rw [hX] at hf
          obtain ⟨cv, r1, r2⟩ := fold_ok (P := P) mn2 Builtin.min2 (mn2_ok (P := P)) vs (l.map a.eval) q v (a.eval x) hf (cOpd_ok ht hx hX) (by simpa using k1) (fun j a' c' e1 e2 => by
            simp at e2
            obtain ⟨y, hy, rfl⟩ := e2
            exact k2 j y a' hy e1)
          refine hrun _ _ cv r1 (fun w' => ?_)
          rw [harr _ hl]
          simp only [builtin]
          rw [Sem.run_bind]
          unfold Builtin.min_
          simp [r2]
    · cases hc
  case append =>
    split at hc
    · split at hc
      · split at hc
        · cases hc; simp [evP] at he
        · cases hc
      · cases hc
    · split at hc
      · split at hc
        · split at hc
          · cases hc; simp [evP] at he
          · cases hc
        · cases hc
      · cases hc
    · split at hc
      · split at hc
        · cases hc; simp [evP] at he
        · cases hc
      · cases hc
    · cases hc
  case clear =>
    split at hc
    · split at hc
      · split at hc
        · cases hc; simp [evP] at he
        · cases hc
      · cases hc
    · cases hc

theorem evP_ok (hr : HR w (full h s) L) (ht : TR (envOf w (full h s) L) a s.t) {o : Oper} {ao : AOp} (hc : cOp P drw o = some ao) (he : evP h s ao = some (v, rs)) : Yl P (envOf w (full h s) L) o a v rs := by
  cases ho : o.op with
  | move x =>
    simp [cOp, ho] at hc
    obtain ⟨X, hx, rfl⟩ := hc
    obtain ⟨hv, rfl⟩ := one_map (by simpa [evP] using he)
    exact y_easy (cOpd_ok ht hx hv) (fun w' => by simp [execOp, ho])
  | assign x =>
    simp only [cOp, ho] at hc
    split at hc
    · cases hE : elemT P o.type with
      | none => simp [hE] at hc
      | some e => cases hs : szT P e with
        | none => simp [hE, hs] at hc
        | some n => simp [hE, hs] at hc; subst hc; simp [evP] at he
    · obtain ⟨X, hx, rfl⟩ := map_some_inv hc
      obtain ⟨hv, rfl⟩ := one_map (by simpa [evP] using he)
      exact y_easy (cOpd_ok ht hx hv) (fun w' => by simp [execOp, ho])
  | pick c x y =>
    simp only [cOp, ho] at hc
    obtain ⟨C, hC, hc⟩ := bind_some_inv hc
    obtain ⟨X, hx, hc⟩ := bind_some_inv hc
    obtain ⟨Y, hy, hc⟩ := bind_some_inv hc
    cases hc
    simp only [evP] at he
    split at he
    · rename_i b hb
      have hb' := (cOpd_ok ht hC hb).inv_g.inv_bool
      cases b
      · simp at he
        obtain ⟨v', h1, h2, h3⟩ := he
        subst h2 h3
        exact y_easy (cOpd_ok ht hy h1) (fun w' => by simp [execOp, ho, hb', asBool])
      · simp at he
        obtain ⟨v', h1, h2, h3⟩ := he
        subst h2 h3
        exact y_easy (cOpd_ok ht hx h1) (fun w' => by simp [execOp, ho, hb', asBool])
    · cases he
  | binOp op t x y yt =>
    obtain ⟨dst, o', ty, pos, after, gd⟩ := o
    simp only at ho
    subst ho
    simp only [cOp] at hc
    obtain ⟨X, hx, hc⟩ := bind_some_inv hc
    obtain ⟨Y, hy, hc⟩ := bind_some_inv hc
    have eqs : ∀ op, (op = BinOp.eql ∨ op = BinOp.neq) → (if scalarT P t then some (AOp.bin op X Y) else match nilK P t y with
          | some k => some (.isnil (op == .neq) k X)
          | none => match nilK P t x with
            | some k => some (.isnil (op == .neq) k Y)
            | none => match flatK P 20 t with
              | some ks => if P.eqGuardType P.depth t = false then (aggT P t).map fun ag => .eqs (op == .neq) ag ks X Y else none
              | none => none) = some ao → Yl P (envOf w (full h s) L) ⟨dst, .binOp op t x y yt, ty, pos, after, gd⟩ a v rs := by
      intro op hop hc
      split at hc
      · cases hc; exact y_bin ht hx hy he
      · cases hn : nilK P t y with
        | some k => simp only [hn] at hc; cases hc; exact y_isnil ht hop (.inl ⟨hn, hx⟩) he
        | none =>
          simp only [hn] at hc
          cases hn' : nilK P t x with
          | some k => simp only [hn'] at hc; cases hc; exact y_isnil ht hop (.inr ⟨hn', hy⟩) he
          | none =>
            simp only [hn'] at hc
            cases hk : flatK P 20 t with
            | none => simp [hk] at hc
            | some ks =>
              simp only [hk] at hc
              split at hc
              · rename_i hg
                obtain ⟨ag, hag, rfl⟩ := map_some_inv hc
                exact y_eqs ht hop hk hag hg hx hy he
              · cases hc
    cases op <;> simp only [] at hc <;> first
      | exact eqs _ (.inl rfl) hc
      | exact eqs _ (.inr rfl) hc
      | (cases hc; exact y_bin ht hx hy he)
  | unOp op t x =>
    simp only [cOp, ho] at hc
    obtain ⟨X, hx, hc⟩ := bind_some_inv hc
    cases hc
    simp only [evP] at he
    split at he
    · rename_i b hb
      cases he
      exact y_easy (.g (.bool _)) (fun w' => by simp [execOp, ho, (cOpd_ok ht hx hb).inv_g.inv_bool, Op.unary])
    · rename_i k n hb
      cases he
      exact y_easy (.g (.int _ _)) (fun w' => by simp [execOp, ho, (cOpd_ok ht hx hb).inv_g.inv_int, Op.unary, Op.intArith])
    · cases he
  | convert t1 t2 x =>
    simp only [cOp, ho] at hc
    obtain ⟨X, hx, hc⟩ := bind_some_inv hc
    split at hc
    · rename_i k1 k2 hu1 hu2
      cases hc
      simp only [evP] at he
      split at he
      · rename_i k n hb
        cases he
        refine y_easy (.g (.int _ _)) (fun w' => ?_)
        simp only [execOp, ho, (cOpd_ok ht hx hb).inv_g.inv_int]
        rw [Sem.run_bind]
        unfold convert
        simp only [Sem.run_bind, run_underlying hu1, run_underlying hu2, Result.andThen_ok, Conv.intToInt, Sem.run_pure]
      · cases he
    · rename_i hu1 hu2
      cases hc
      simp only [evP] at he
      split at he
      · rename_i b hb
        cases he
        refine y_easy (.g (.str _)) (fun w' => ?_)
        simp only [execOp, ho, (cOpd_ok ht hx hb).inv_g.inv_str]
        rw [Sem.run_bind]
        unfold convert
        simp only [Sem.run_bind, run_underlying hu1, run_underlying hu2, Result.andThen_ok, Sem.run_pure]
      · cases he
    · split at hc
      · cases hc; simp [evP] at he
      · cases hc
    · split at hc
      · cases hc; simp [evP] at he
      · cases hc
    · cases hc
  | field t x f =>
    simp only [cOp, ho] at hc
    obtain ⟨fl, hf, hc⟩ := bind_some_inv hc
    obtain ⟨b, hb, hc⟩ := bind_some_inv hc
    obtain ⟨n, hn, hc⟩ := bind_some_inv hc
    obtain ⟨X, hx, hc⟩ := bind_some_inv hc
    cases hc
    exact evP_field ht ho hf hb hn hx he
  | fieldAddr t x f =>
    simp only [cOp, ho] at hc
    obtain ⟨fl, hf, hc⟩ := bind_some_inv hc
    obtain ⟨n, hn, hc⟩ := bind_some_inv hc
    split at hc
    · rename_i hn0
      obtain ⟨X, hx, hc⟩ := bind_some_inv hc
      cases hc
      exact y_faddr hr ht ho hf hn hn0 hx he
    · cases hc
  | indexAddr t x i =>
    simp only [cOp, ho] at hc
    split at hc
    · rename_i e hu
      obtain ⟨n, hn, hc⟩ := bind_some_inv hc
      obtain ⟨X, hx, hc⟩ := bind_some_inv hc
      obtain ⟨I, hi, hc⟩ := bind_some_inv hc
      cases hc
      exact y_iaddr hr ht ho hu hn hx hi he
    · rename_i len e hu
      obtain ⟨n, hn, hc⟩ := bind_some_inv hc
      obtain ⟨X, hx, hc⟩ := bind_some_inv hc
      obtain ⟨I, hi, hc⟩ := bind_some_inv hc
      cases hc
      exact y_iaddrA ht ho hu hn hx hi he
    · cases hc
  | index t x i =>
    simp only [cOp, ho] at hc
    split at hc
    · rename_i hu
      obtain ⟨X, hx, hc⟩ := bind_some_inv hc
      obtain ⟨I, hi, hc⟩ := bind_some_inv hc
      cases hc
      exact evP_index ht ho hu hx hi he
    · rename_i len e hu
      obtain ⟨b, hb, hc⟩ := bind_some_inv hc
      obtain ⟨n, hn, hc⟩ := bind_some_inv hc
      obtain ⟨X, hx, hc⟩ := bind_some_inv hc
      obtain ⟨I, hi, hc⟩ := bind_some_inv hc
      cases hc
      exact evP_indexA ht ho hu hb hn hx hi he
    · cases hc
  | load t p =>
    obtain ⟨dst, o', ty, pos, after, gd⟩ := o
    simp only at ho
    subst ho
    simp only [cOp] at hc
    obtain ⟨ag, ha, hc⟩ := bind_some_inv hc
    obtain ⟨n, hn, hc⟩ := bind_some_inv hc
    split at hc
    · rename_i hcond
      obtain ⟨X, hx, hc⟩ := bind_some_inv hc
      cases hc
      exact y_load hr ht ha hn hcond hx he
    · cases hc
  | store t p x =>
    simp only [cOp, ho] at hc
    obtain ⟨_, _, hc⟩ := bind_some_inv hc
    obtain ⟨_, _, hc⟩ := bind_some_inv hc
    obtain ⟨_, _, hc⟩ := bind_some_inv hc
    cases hc; simp [evP] at he
  | extract x j =>
    simp only [cOp, ho] at hc
    obtain ⟨X, hx, rfl⟩ := map_some_inv hc
    simp only [evP] at he
    split at he
    · rename_i vs hX
      cases hj : vs[j]? with
      | none => simp [hj] at he
      | some u =>
        simp [hj] at he
        obtain ⟨rfl, rfl⟩ := he
        have hq := cOpd_ok ht hx hX
        generalize hcx : a.eval x = cx at hq
        cases hq with
        | @tup _ C hn hh =>
          have hlt : j < C.size := by rw [← hn]; exact (List.getElem?_eq_some_iff.1 hj).1
          exact y_easy (hh j _ _ hj (Array.getElem?_eq_getElem hlt)) (fun w' => by simp [execOp, ho, hcx, Instr.extract, Array.getElem?_eq_getElem hlt])
    · cases he
  | build t ps =>
    simp only [cOp, ho] at hc
    obtain ⟨z, hz, hc⟩ := bind_some_inv hc
    obtain ⟨pl, hpl, hc⟩ := bind_some_inv hc
    obtain ⟨l, hl, hc⟩ := bind_some_inv hc
    cases hc
    exact evP_build ht ho hz hpl hl he
  | slice t x lo hi mx =>
    simp only [cOp, ho] at hc
    split at hc
    · rename_i hu
      split at hc
      · rename_i hm
        have hm' : mx = none := by simpa using hm
        subst hm'
        obtain ⟨X, hx, hc⟩ := bind_some_inv hc
        obtain ⟨Lo, hlo, hc⟩ := bind_some_inv hc
        obtain ⟨Hi, hhi, hc⟩ := bind_some_inv hc
        cases hc
        exact evP_slcS ht ho hu hx hlo hhi he
      · cases hc
    · rename_i e hu
      split at hc
      · rename_i hm
        have hm' : mx = none := by simpa using hm
        subst hm'
        obtain ⟨k, hk, hc⟩ := bind_some_inv hc
        obtain ⟨X, hx, hc⟩ := bind_some_inv hc
        obtain ⟨Lo, hlo, hc⟩ := bind_some_inv hc
        obtain ⟨Hi, hhi, hc⟩ := bind_some_inv hc
        cases hc
        exact evP_slc hr ht ho hu hk hx hlo hhi he
      · obtain ⟨k, hk, hc⟩ := bind_some_inv hc
        obtain ⟨X, hx, hc⟩ := bind_some_inv hc
        obtain ⟨Lo, hlo, hc⟩ := bind_some_inv hc
        obtain ⟨Hi, hhi, hc⟩ := bind_some_inv hc
        obtain ⟨Mx, hmx, hc⟩ := bind_some_inv hc
        cases hc
        simp [evP] at he
    · cases hc
  | makeInterface t x =>
    simp only [cOp, ho] at hc
    split at hc
    · cases hc
    · rename_i u hnu hu
      obtain ⟨X, hx, rfl⟩ := map_some_inv hc
      have hrun : ∀ w', (Instr.makeInterface t (a.eval x)).run P w' = .ok (.iface t (a.eval x)) w' := fun w' => by
        unfold Instr.makeInterface
        rw [Sem.run_bind, run_underlying hu]
        cases u <;> first | rfl | (exact (hnu _ rfl).elim)
      simp only [evP] at he
      split at he
      · rename_i g hX
        cases he
        exact y_easy (.g (.ifc t (cOpd_ok ht hx hX).inv_g)) (fun w' => by simp only [execOp, ho]; rw [Sem.run_bind, hrun]; rfl)
      · rename_i i off hX
        cases he
        exact y_easy (.ifa t (cOpd_ok ht hx hX)) (fun w' => by simp only [execOp, ho]; rw [Sem.run_bind, hrun]; rfl)
      · cases he
    · cases hc
  | makeFunc fn first caps =>
    cases fn <;> simp only [cOp, ho] at hc <;> try (cases hc; done)
    · rename_i f
      split at hc
      · rename_i hf
        have hf' : first = #[] := Array.eq_empty_of_size_eq_zero hf
        subst hf'
        obtain ⟨Xs, hxs, hc⟩ := bind_some_inv hc
        cases hc
        simp only [evP] at he
        split at he
        · cases he
          rename_i hnil
          have : caps.toList = [] := by
            cases hl : caps.toList with
            | nil => rfl
            | cons x xs =>
              rw [hl] at hxs
              simp only [cOpds] at hxs
              split at hxs
              · cases hxs
              · cases hxs
          have hcaps : caps = #[] := by
            apply Array.ext'; simpa using this
          subst hcaps
          exact y_easy (.g (.fn f)) (fun w' => by simp [execOp, ho, Instr.makeFunc])
        · cases hvs : vals s Xs with
          | none => simp [hvs] at he
          | some vs =>
            simp [hvs] at he
            obtain ⟨rfl, rfl⟩ := he
            obtain ⟨h1, h2⟩ := cOpds_vals ht hxs hvs
            refine y_easy (.fv (C := caps.map a.eval) (by simpa using h1) (fun j x c hx hc => ?_)) (fun w' => by simp [execOp, ho, Instr.makeFunc])
            simp at hc
            obtain ⟨y, hy, rfl⟩ := hc
            exact h2 j y x (by simpa using hy) hx
      · cases hc
    · rename_i t p f q
      split at hc
      · rename_i hf
        obtain ⟨hf1, hf2⟩ := hf
        have hf' : first = #[] := Array.eq_empty_of_size_eq_zero hf1
        have hf'' : caps = #[] := Array.eq_empty_of_size_eq_zero hf2
        subst hf' hf''
        cases hc
        simp [evP] at he
        obtain ⟨rfl, rfl⟩ := he
        exact y_easy (.via t p.toList f q) (fun w' => by simp [execOp, ho, Instr.makeFunc])
      · cases hc
  | nilCheck x =>
    simp only [cOp, ho] at hc
    obtain ⟨X, hx, rfl⟩ := map_some_inv hc
    simp only [evP] at he
    split at he <;> (try (cases he; done)) <;> (rename_i hX; cases he; have hq := cOpd_ok ht hx hX; generalize hcx : a.eval x = cx at hq)
    · cases hq; exact y_easy (.ptr (by assumption) (by assumption) (by assumption)) (fun w' => by simp [execOp, ho, hcx])
    · cases hq; exact y_easy (.cp _ (by assumption) (by assumption) (by assumption) (by assumption)) (fun w' => by simp [execOp, ho, hcx])
    · cases hq; exact y_easy (.fv (by assumption) (by assumption)) (fun w' => by simp [execOp, ho, hcx])
    · cases hq.inv_g; exact y_easy (.g (.fn _)) (fun w' => by simp [execOp, ho, hcx])
    · have := hq.inv_g; cases this; exact y_easy (.g (.ifc _ (by assumption))) (fun w' => by simp [execOp, ho, hcx])
    · cases hq; exact y_easy (.ifa _ (by assumption)) (fun w' => by simp [execOp, ho, hcx])
  | call c =>
    obtain ⟨dst, o', ty, pos, after, gd⟩ := o
    simp only at ho
    subst ho
    obtain ⟨callee, cargs, cts⟩ := c
    simp only [cOp, cCall] at hc
    cases callee with
    | value f =>
      dsimp only at hc
      split at hc
      · cases hc; simp [evP] at he
      · cases hc
    | invoke r m => cases hc
    | builtin b =>
      dsimp only at hc
      split at hc
      · rename_i xs hxs; exact y_builtin hr ht hxs hc he
      · cases hc
  | alloc t =>
    simp only [cOp, ho] at hc
    obtain ⟨z, _, hc⟩ := bind_some_inv hc
    split at hc <;> (cases hc; simp [evP] at he)
  | box t x =>
    simp only [cOp, ho] at hc
    split at hc
    · obtain ⟨_, _, hc⟩ := bind_some_inv hc; cases hc; simp [evP] at he
    · cases hc
  | buildSlice t n ps =>
    simp only [cOp, ho] at hc
    split at hc
    · split at hc
      · split at hc
        · split at hc
          · cases hc; simp [evP] at he
          · cases hc
        · cases hc
      · cases hc
    · cases hc
  | makeSlice t l c =>
    simp only [cOp, ho] at hc
    split at hc
    · split at hc
      · cases hc; simp [evP] at he
      · cases hc
    · cases hc
  | _ => simp only [cOp, ho] at hc; cases hc

end
end Go.AM
