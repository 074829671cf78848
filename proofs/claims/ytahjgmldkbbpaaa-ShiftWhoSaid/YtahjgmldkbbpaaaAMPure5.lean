/- The operations that leave memory as it is, all of them: the theorem. -/
import Derived.Test.YtahjgmldkbbpaaaAMPure4
set_option linter.unusedSimpArgs false
set_option linter.unusedVariables false
namespace Go.AM
open Go

theorem mapM_get {α β : Type} {f : α → Option β} : ∀ {l : List α} {r : List β}, l.mapM f = some r → r.length = l.length ∧ ∀ (j : Nat) (x : α) (y : β), l[j]? = some x → r[j]? = some y → f x = some y := by
  intro l
  induction l with
  | nil => intro r h; simp at h; subst h; simp
  | cons x l ih =>
    intro r h
    simp only [List.mapM_cons, Option.bind_eq_bind, Option.pure_def] at h
    cases hx : f x with
    | none => simp [hx] at h
    | some y =>
      cases hl : l.mapM f with
      | none => simp [hx, hl] at h
      | some ys =>
        simp [hx, hl] at h
        subst h
        obtain ⟨i1, i2⟩ := ih hl
        refine ⟨by simp [i1], fun j a b ha hb => ?_⟩
        cases j with
        | zero => simp at ha hb; subst ha hb; exact hx
        | succ j => exact i2 j a b (by simpa using ha) (by simpa using hb)

theorem cZero_ok {P : Program} {E : Env} {t : TypeId} {zs : List AV} (h : cZero P t = some zs) : ∃ i z, P.info? t = some i ∧ i.zero = some z ∧ CRel E zs z.cells ∧ ∀ (j : Nat) (u : Value), z.cells[j]? = some u → u.oneCell' = true := by
  unfold cZero at h
  cases hi : P.info? t with
  | none => simp [hi] at h
  | some i =>
    cases hz : i.zero with
    | none => simp [hi, hz] at h
    | some z =>
      simp [hi, hz] at h
      obtain ⟨h1, h2⟩ := mapM_get h
      refine ⟨i, z, rfl, hz, ⟨by simpa using h1, fun j a v ha hv => cVal_ok (h2 j v a (by simpa using hv) ha)⟩, fun j u hu => ?_⟩
      have hlt : j < zs.length := by
        have : j < z.cells.size := (Array.getElem?_eq_some_iff.1 hu).1
        simp at h1; omega
      have := h2 j u zs[j] (by simpa using hu) (List.getElem?_eq_getElem hlt)
      cases u <;> first | rfl | (simp [cVal] at this)

section
variable {P : Program} {h : List Blk} {s : St} {a : Act} {w : World} {L : Nat → Lc} {v : AV} {rs : List Nat} {drw : Option Nat}


theorem y_bin {E : Env} (ht : TR E a s.t) {dst : Option Tmp} {ty : TypeId} {pos : String} {after : Array Edge} {gd : Option (Nat × Bool)} {op : BinOp} {t yt : TypeId} {x y : Operand} {X Y : Opd} (hx : cOpd x = some X) (hy : cOpd y = some Y)
    (he : evP h s (.bin op X Y) = some (v, rs)) : Yl P E ⟨dst, .binOp op t x y yt, ty, pos, after, gd⟩ a v rs := by
  simp only [evP] at he
  cases hX : val s X with
  | none => simp [hX] at he
  | some p =>
    cases hY : val s Y with
    | none => simp [hX, hY] at he
    | some q =>
      simp only [hX, hY] at he
      obtain ⟨r, hr, e⟩ := map_some_inv he
      simp at e
      obtain ⟨rfl, rfl⟩ := e
      obtain ⟨cv, k1, k2⟩ := binV_ok (P := P) t x y hr (cOpd_ok ht hx hX) (cOpd_ok ht hy hY)
      exact ⟨cv, k1, fun w' _ => by simp only [execOp]; rw [Sem.run_bind, k2 w']; rfl⟩

theorem y_eqs {E : Env} (ht : TR E a s.t) {dst : Option Tmp} {ty : TypeId} {pos : String} {after : Array Edge} {gd : Option (Nat × Bool)} {op : BinOp} (hop : op = .eql ∨ op = .neq) {t yt : TypeId} {x y : Operand} {X Y : Opd} {ks : List LK} {ag : Bool} (hk : flatK P 20 t = some ks)
    (hag : aggT P t = some ag) (hg : P.eqGuardType P.depth t = false) (hx : cOpd x = some X) (hy : cOpd y = some Y)
    (he : evP h s (.eqs (op == .neq) ag ks X Y) = some (v, rs)) : Yl P E ⟨dst, .binOp op t x y yt, ty, pos, after, gd⟩ a v rs := by
  simp only [evP] at he
  cases hX : val s X with
  | none => simp [hX] at he
  | some p =>
    cases hY : val s Y with
    | none => simp [hX, hY] at he
    | some q =>
      simp only [hX, hY] at he
      cases hq : eqV ag ks p q with
      | none => simp [hq] at he
      | some r =>
        simp [hq] at he
        obtain ⟨rfl, rfl⟩ := he
        have hp := cOpd_ok ht hx hX
        have hq' := cOpd_ok ht hy hY
        have fin : (∀ w', (eqGuard op t x y (a.eval x) (a.eval y)).run P w' = .ok () w') → (∀ w', (Op.equalIn 10000 t (a.eval x) (a.eval y)).run P w' = .ok r w') →
            (∀ w', (binOp op t (a.eval x) (a.eval y)).run P w' = ((Op.equalIn 10000 t (a.eval x) (a.eval y)).run P w').andThen fun b w' => .ok (.bool (if op = .neq then !b else b)) w') →
            Yl P E ⟨dst, .binOp op t x y yt, ty, pos, after, gd⟩ a (.g (.bool (if op = .neq then !r else r))) [] := by
          intro h1 h2 h3
          refine ⟨_, .g (.bool _), fun w' _ => ?_⟩
          simp only [execOp]
          rw [Sem.run_bind, Sem.run_bind, h1, Result.andThen_ok, h3, h2]
          rfl
        unfold eqV at hq
        split at hq
        · obtain ⟨xs, e1, h1, _⟩ := hp.crel
          obtain ⟨ys, e2, h2, _⟩ := hq'.crel
          rw [e1, e2] at fin
          refine fin (fun w' => run_eqGuard_agg w' op t x y xs ys hg) (fun w' => flat_eq 20 9980 t true ks _ _ xs ys r w' hk hag h1 h2 hq) (fun w' => ?_)
          rcases hop with rfl | rfl
          · rw [run_eql_struct]; rfl
          · rw [run_neq_struct]; rfl
        · have one : ∀ (g : GV) (c : Value), GR E g c → CRel E [.g g] #[c] := fun g c hgc => ⟨rfl, fun j a' v' ha' hv' => by
            match j with
            | 0 => simp at ha' hv'; subst ha' hv'; exact .g hgc
            | j + 1 => simp at ha'⟩
          rename_i ga gb
          have h2 := fun w' => flat_eq (P := P) (E := E) 20 9980 t false ks _ _ #[a.eval x] #[a.eval y] r w' hk hag (one _ _ hp.inv_g) (one _ _ hq'.inv_g) hq
          simp only [mkV, Bool.false_eq_true, if_false] at h2
          have e0 : ∀ (c : Value), (#[c] : Array Value).getD 0 Go.undef = c := fun c => rfl
          simp only [e0] at h2
          -- bools, whole numbers and texts: no guard, and '==' by type
          have hkind : ∃ k, ks = [k] := by
            have := (eqL_length hq).1
            match ks, this with
            | [k], _ => exact ⟨k, rfl⟩
          obtain ⟨k, rfl⟩ := hkind
          have hgg : ∃ r1, eqG k ga gb = some r1 := by
            cases hgk : eqG k ga gb with
            | none => simp [eqL, hgk] at hq
            | some r1 => exact ⟨r1, rfl⟩
          obtain ⟨r1, hgg⟩ := hgg
          have hx1 := hp.inv_g
          have hy1 := hq'.inv_g
          clear fin
          cases ga <;> cases gb <;> cases k <;> simp [eqG] at hgg
          · rw [hx1.inv_bool, hy1.inv_bool] at h2
            refine ⟨_, .g (.bool _), fun w' _ => ?_⟩
            simp only [execOp]
            rw [Sem.run_bind, Sem.run_bind, hx1.inv_bool, hy1.inv_bool, eqGuard_at_bool]
            rcases hop with rfl | rfl <;> simp [binOp, Op.equal, Op.maxDepth, h2]
          · rw [hx1.inv_int, hy1.inv_int] at h2
            obtain ⟨rfl, hgg⟩ := hgg
            refine ⟨_, .g (.bool _), fun w' _ => ?_⟩
            simp only [execOp]
            rw [Sem.run_bind, Sem.run_bind, hx1.inv_int, hy1.inv_int, eqGuard_at_int]
            rcases hop with rfl | rfl <;> simp [binOp, Op.intCmp] <;> simp [eqL, eqG] at hq <;> rw [← hq] <;> rfl
          · refine ⟨_, .g (.bool _), fun w' _ => ?_⟩
            simp only [execOp]
            rw [Sem.run_bind, Sem.run_bind, hx1.inv_str, hy1.inv_str, eqGuard_at_string]
            rcases hop with rfl | rfl <;> simp [binOp, Op.stringOp] <;> simp [eqL, eqG] at hq <;> rw [← hq]
        · cases hq

theorem isNil_ok {E : Env} {k : Nat} {p : AV} {r : Bool} {c : Value} (h : isNil k p = some r) (hp : AR E p c) :
    (k = 0 ∧ ∃ A, c = .pointer A ∧ r = A.isNone) ∨ (k = 1 ∧ ((c = .nilIface ∧ r = true) ∨ ∃ t u, c = .iface t u ∧ r = false)) ∨
    (k = 2 ∧ ((c = .nilFunc ∧ r = true) ∨ ∃ f x y, c = .func f x y ∧ r = false)) ∨ (k = 3 ∧ ∃ m, c = .map m ∧ r = m.isNone) := by
  unfold isNil at h
  split at h <;> (first | (cases h; done) | skip) <;> cases h
  · cases hp.inv_g; exact .inl ⟨rfl, _, rfl, rfl⟩
  · cases hp.inv_g; exact .inr (.inl ⟨rfl, .inl ⟨rfl, rfl⟩⟩)
  · cases hp.inv_g; exact .inr (.inr (.inl ⟨rfl, .inl ⟨rfl, rfl⟩⟩))
  · cases hp.inv_g; exact .inr (.inr (.inr ⟨rfl, _, rfl, rfl⟩))
  · cases hp; exact .inl ⟨rfl, _, rfl, rfl⟩
  · cases hp; exact .inl ⟨rfl, _, rfl, rfl⟩
  · cases hp.inv_g; exact .inr (.inl ⟨rfl, .inr ⟨_, _, rfl, rfl⟩⟩)
  · cases hp; exact .inr (.inl ⟨rfl, .inr ⟨_, _, rfl, rfl⟩⟩)
  · cases hp.inv_g; exact .inr (.inr (.inl ⟨rfl, .inr ⟨_, _, _, rfl, rfl⟩⟩))
  · cases hp; exact .inr (.inr (.inl ⟨rfl, .inr ⟨_, _, _, rfl, rfl⟩⟩))
  · cases hp; exact .inr (.inr (.inl ⟨rfl, .inr ⟨_, _, _, rfl, rfl⟩⟩))
  · cases hp; exact .inr (.inr (.inr ⟨rfl, _, rfl, rfl⟩))

theorem nilK_ok {t : TypeId} {y : Operand} {k : Nat} (h : nilK P t y = some k) :
    (k = 0 ∧ y = .const (.pointer none) ∧ ∃ e, P.underlying t = some (.pointer e)) ∨ (k = 1 ∧ y = .const .nilIface ∧ ∃ e, P.underlying t = some (.interface e)) ∨
    (k = 2 ∧ y = .const .nilFunc ∧ ∃ a b c, P.underlying t = some (.func a b c)) ∨ (k = 3 ∧ y = .const (.map none) ∧ ∃ a b, P.underlying t = some (.map a b)) := by
  unfold nilK at h
  split at h <;> (first | (cases h; done) | skip) <;> cases h
  · rename_i hu; exact .inl ⟨rfl, rfl, _, hu⟩
  · rename_i hu; exact .inr (.inl ⟨rfl, rfl, _, hu⟩)
  · rename_i hu; exact .inr (.inr (.inl ⟨rfl, rfl, _, _, _, hu⟩))
  · rename_i hu; exact .inr (.inr (.inr ⟨rfl, rfl, _, _, hu⟩))

/-- '==' and '!=' by type. -/
theorem run_eqn {op : BinOp} (hop : op = .eql ∨ op = .neq) (t : TypeId) (cx cy : Value) (r : Bool) (w : World)
    (hb : binOp .eql t cx cy = Value.bool <$> Op.equal t cx cy ∧ binOp .neq t cx cy = (fun a => Value.bool !a) <$> Op.equal t cx cy) (h : (Op.equalIn (9999 + 1) t cx cy).run P w = .ok r w) :
    (binOp op t cx cy).run P w = .ok (.bool (if op = .neq then !r else r)) w := by
  have h' : (Op.equal t cx cy).run P w = .ok r w := h
  rcases hop with rfl | rfl
  · rw [hb.1]; simp [h']
  · rw [hb.2]; simp [h']

theorem eqn_ptr (d : Nat) {t e : TypeId} (hu : P.underlying t = some (.pointer e)) (A : Option Addr) (w : World) :
    (Op.equalIn (d + 1) t (.pointer A) (.pointer none)).run P w = .ok A.isNone w ∧ (Op.equalIn (d + 1) t (.pointer none) (.pointer A)).run P w = .ok A.isNone w := by
  cases A <;> simp [Op.equalIn, run_underlying hu]
theorem eqn_map (d : Nat) {t e1 e2 : TypeId} (hu : P.underlying t = some (.map e1 e2)) (A : Option Nat) (w : World) :
    (Op.equalIn (d + 1) t (.map A) (.map none)).run P w = .ok A.isNone w ∧ (Op.equalIn (d + 1) t (.map none) (.map A)).run P w = .ok A.isNone w := by
  cases A <;> simp [Op.equalIn, run_underlying hu]
theorem eqn_if0 (d : Nat) {t : TypeId} {e} (hu : P.underlying t = some (.interface e)) (w : World) : (Op.equalIn (d + 1) t .nilIface .nilIface).run P w = .ok true w := by
  simp [Op.equalIn, run_underlying hu]
theorem eqn_if1 (d : Nat) {t : TypeId} {e} (hu : P.underlying t = some (.interface e)) (q : TypeId) (u : Value) (w : World) :
    (Op.equalIn (d + 1) t (.iface q u) .nilIface).run P w = .ok false w ∧ (Op.equalIn (d + 1) t .nilIface (.iface q u)).run P w = .ok false w := by
  simp [Op.equalIn, run_underlying hu]
theorem eqn_fn0 (d : Nat) {t : TypeId} {e1 e2 e3} (hu : P.underlying t = some (.func e1 e2 e3)) (w : World) : (Op.equalIn (d + 1) t .nilFunc .nilFunc).run P w = .ok true w := by
  simp [Op.equalIn, run_underlying hu]
theorem eqn_fn1 (d : Nat) {t : TypeId} {e1 e2 e3} (hu : P.underlying t = some (.func e1 e2 e3)) (f : Fn) (x y : Array Value) (w : World) :
    (Op.equalIn (d + 1) t (.func f x y) .nilFunc).run P w = .ok false w ∧ (Op.equalIn (d + 1) t .nilFunc (.func f x y)).run P w = .ok false w := by
  simp [Op.equalIn, run_underlying hu]

theorem y_isnil {E : Env} (ht : TR E a s.t) {dst : Option Tmp} {ty : TypeId} {pos : String} {after : Array Edge} {gd : Option (Nat × Bool)} {op : BinOp} (hop : op = .eql ∨ op = .neq) {t yt : TypeId} {x y : Operand} {X : Opd} {k : Nat}
    (hor : (nilK P t y = some k ∧ cOpd x = some X) ∨ (nilK P t x = some k ∧ cOpd y = some X))
    (he : evP h s (.isnil (op == .neq) k X) = some (v, rs)) : Yl P E ⟨dst, .binOp op t x y yt, ty, pos, after, gd⟩ a v rs := by
  simp only [evP] at he
  cases hX : val s X with
  | none => simp [hX] at he
  | some p =>
    simp only [hX] at he
    cases hq : isNil k p with
    | none => simp [hq] at he
    | some r =>
      simp [hq] at he
      obtain ⟨rfl, rfl⟩ := he
      have fin : (∀ w', (eqGuard op t x y (a.eval x) (a.eval y)).run P w' = .ok () w') → (∀ w', (binOp op t (a.eval x) (a.eval y)).run P w' = .ok (.bool (if op = .neq then !r else r)) w') →
          Yl P E ⟨dst, .binOp op t x y yt, ty, pos, after, gd⟩ a (.g (.bool (if op = .neq then !r else r))) [] := by
        intro h1 h2
        refine ⟨_, .g (.bool _), fun w' _ => ?_⟩
        simp only [execOp]
        rw [Sem.run_bind, Sem.run_bind, h1, Result.andThen_ok, h2]
        rfl
      rcases hor with ⟨hn, hx⟩ | ⟨hn, hx⟩
      · have hk := isNil_ok hq (cOpd_ok ht hx hX)
        rcases nilK_ok hn with ⟨rfl, rfl, e, hu⟩ | ⟨rfl, rfl, e, hu⟩ | ⟨rfl, rfl, e1, e2, e3, hu⟩ | ⟨rfl, rfl, e1, e2, hu⟩
        · rcases hk with ⟨_, A, hA, rfl⟩ | ⟨hk, _⟩ | ⟨hk, _⟩ | ⟨hk, _⟩ <;> try (cases hk; done)
          refine fin (fun w' => by rw [hA, eqGuard_at_pointer]; rfl) (fun w' => ?_)
          rw [hA]
          exact run_eqn hop t _ _ _ w' (by constructor <;> simp [binOp, Act.eval]) (eqn_ptr 9999 hu A w').1
        · rcases hk with ⟨hk, _⟩ | ⟨_, ⟨hA, rfl⟩ | ⟨t', u, hA, rfl⟩⟩ | ⟨hk, _⟩ | ⟨hk, _⟩ <;> try (cases hk; done)
          · refine fin (fun w' => by rw [hA]; show (eqGuard op t x (.const .nilIface) .nilIface .nilIface).run P w' = _; rw [eqGuard_nil_constR]; rfl) (fun w' => ?_)
            rw [hA]
            exact run_eqn hop t _ _ _ w' (by constructor <;> simp [binOp, Act.eval]) (eqn_if0 9999 hu w')
          · refine fin (fun w' => by rw [hA, eqGuard_at_iface]; rfl) (fun w' => ?_)
            rw [hA]
            exact run_eqn hop t _ _ _ w' (by constructor <;> simp [binOp, Act.eval]) (eqn_if1 9999 hu _ _ w').1
        · rcases hk with ⟨hk, _⟩ | ⟨hk, _⟩ | ⟨_, ⟨hA, rfl⟩ | ⟨f, x1, y1, hA, rfl⟩⟩ | ⟨hk, _⟩ <;> try (cases hk; done)
          · refine fin (fun w' => by rw [hA, eqGuard_at_nilFunc]; rfl) (fun w' => ?_)
            rw [hA]
            exact run_eqn hop t _ _ _ w' (by constructor <;> simp [binOp, Act.eval]) (eqn_fn0 9999 hu w')
          · refine fin (fun w' => by rw [hA, eqGuard_at_func]; rfl) (fun w' => ?_)
            rw [hA]
            exact run_eqn hop t _ _ _ w' (by constructor <;> simp [binOp, Act.eval]) (eqn_fn1 9999 hu _ _ _ w').1
        · rcases hk with ⟨hk, _⟩ | ⟨hk, _⟩ | ⟨hk, _⟩ | ⟨_, m, hA, rfl⟩ <;> try (cases hk; done)
          refine fin (fun w' => by rw [hA, eqGuard_at_map]; rfl) (fun w' => ?_)
          rw [hA]
          exact run_eqn hop t _ _ _ w' (by constructor <;> simp [binOp, Act.eval]) (eqn_map 9999 hu m w').1
      · have hk := isNil_ok hq (cOpd_ok ht hx hX)
        rcases nilK_ok hn with ⟨rfl, rfl, e, hu⟩ | ⟨rfl, rfl, e, hu⟩ | ⟨rfl, rfl, e1, e2, e3, hu⟩ | ⟨rfl, rfl, e1, e2, hu⟩
        · rcases hk with ⟨_, A, hA, rfl⟩ | ⟨hk, _⟩ | ⟨hk, _⟩ | ⟨hk, _⟩ <;> try (cases hk; done)
          refine fin (fun w' => by show (eqGuard op t _ y (.pointer none) _).run P w' = _; rw [eqGuard_at_pointer]; rfl) (fun w' => ?_)
          rw [hA]
          exact run_eqn hop t _ _ _ w' (by constructor <;> simp [binOp, Act.eval]) (eqn_ptr 9999 hu A w').2
        · rcases hk with ⟨hk, _⟩ | ⟨_, ⟨hA, rfl⟩ | ⟨t', u, hA, rfl⟩⟩ | ⟨hk, _⟩ | ⟨hk, _⟩ <;> try (cases hk; done)
          · refine fin (fun w' => by rw [hA]; show (eqGuard op t (.const .nilIface) y .nilIface .nilIface).run P w' = _; rw [eqGuard_nil_constL]; rfl) (fun w' => ?_)
            rw [hA]
            exact run_eqn hop t _ _ _ w' (by constructor <;> simp [binOp, Act.eval]) (eqn_if0 9999 hu w')
          · refine fin (fun w' => by rw [hA]; show (eqGuard op t _ y .nilIface _).run P w' = _; rw [eqGuard_nil_iface]; rfl) (fun w' => ?_)
            rw [hA]
            exact run_eqn hop t _ _ _ w' (by constructor <;> simp [binOp, Act.eval]) (eqn_if1 9999 hu _ _ w').2
        · rcases hk with ⟨hk, _⟩ | ⟨hk, _⟩ | ⟨_, ⟨hA, rfl⟩ | ⟨f, x1, y1, hA, rfl⟩⟩ | ⟨hk, _⟩ <;> try (cases hk; done)
          · refine fin (fun w' => by show (eqGuard op t _ y .nilFunc _).run P w' = _; rw [eqGuard_at_nilFunc]; rfl) (fun w' => ?_)
            rw [hA]
            exact run_eqn hop t _ _ _ w' (by constructor <;> simp [binOp, Act.eval]) (eqn_fn0 9999 hu w')
          · refine fin (fun w' => by show (eqGuard op t _ y .nilFunc _).run P w' = _; rw [eqGuard_at_nilFunc]; rfl) (fun w' => ?_)
            rw [hA]
            exact run_eqn hop t _ _ _ w' (by constructor <;> simp [binOp, Act.eval]) (eqn_fn1 9999 hu _ _ _ w').2
        · rcases hk with ⟨hk, _⟩ | ⟨hk, _⟩ | ⟨hk, _⟩ | ⟨_, m, hA, rfl⟩ <;> try (cases hk; done)
          refine fin (fun w' => by show (eqGuard op t _ y (.map none) _).run P w' = _; rw [eqGuard_at_map]; rfl) (fun w' => ?_)
          rw [hA]
          exact run_eqn hop t _ _ _ w' (by constructor <;> simp [binOp, Act.eval]) (eqn_map 9999 hu m w').2

end
end Go.AM
