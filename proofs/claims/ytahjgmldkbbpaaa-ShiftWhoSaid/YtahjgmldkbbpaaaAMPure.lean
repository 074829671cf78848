/- The operations that leave memory as it is: what the abstract machine says they yield, the model's machine yields. -/
import Derived.Test.YtahjgmldkbbpaaaAMRel
import Derived.Test.YtahjgmldkbbpaaaAMComp
import Derived.Laws.StructEq
import Derived.Laws.Concat
set_option linter.unusedSimpArgs false
set_option linter.unusedVariables false
namespace Go.AM
open Go

def TR (E : Env) (a : Act) (T : List (Nat × AV)) : Prop := ∀ i v, look T i = some v → AR E v (a.tmps.getD i Go.undef)

/-- A world that shows what is asked of E's: blocks that are nobody's, and those of these numbers. -/
def Sees (E : Env) (rs : List Nat) (w' : World) : Prop :=
  ∀ b, b < E.w.heap.size → (¬ E.O b ∨ ∃ id, id ∈ rs ∧ (E.L id).blk = some b) → w'.heap[b]? = E.w.heap[b]?

theorem cVal_ok {E : Env} {v : Value} {av : AV} (h : cVal v = some av) : AR E av v := by
  unfold cVal at h
  split at h <;> first | (cases h) | skip
  · exact .g (.bool _)
  · exact .g (.int _ _)
  · rename_i s
    have : AR E (.g (.str s.data.toList)) (.string ⟨s.data.toList.toArray⟩) := .g (.str _)
    simpa using this
  · exact .g .nptr
  · exact .g .nsl
  · exact .g .nmap
  · exact .g .nfn
  · exact .g .nif

theorem cOpd_ok {E : Env} {a : Act} {s : St} (ht : TR E a s.t) {x : Operand} {X : Opd} {v : AV} (h : cOpd x = some X) (hv : val s X = some v) : AR E v (a.eval x) := by
  unfold cOpd at h
  split at h
  · cases h; exact ht _ _ hv
  · rename_i u
    cases hu : cVal u with
    | none => simp [hu] at h
    | some w => simp [hu] at h; subst h; simp [val] at hv; subst hv; exact cVal_ok hu
  · cases h; simp [val] at hv; subst hv; exact .g (.fn _)
  · cases h

def isLd : Op → Bool
  | .load .. => true
  | _ => false

/-- What an operation yields: a load in each world that shows as much, all others in any world. -/
def Yl (P : Program) (E : Env) (o : Oper) (a : Act) (v : AV) (rs : List Nat) : Prop :=
  ∃ cv, AR E v cv ∧ ∀ w', (isLd o.op = true → Sees E rs w') → (execOp a.eval o).run P w' = .ok (.value cv) w'

theorem Sees.self (E : Env) (rs : List Nat) : Sees E rs E.w := fun _ _ _ => rfl

/-! ### Binary -/
theorem binV_ok {P : Program} {E : Env} {op : BinOp} {x y v : AV} {cx cy : Value} (t : TypeId) (ox oy : Operand) (h : binV op x y = some v) (hx : AR E x cx) (hy : AR E y cy) :
    ∃ cv, AR E v cv ∧ ∀ w', (do eqGuard op t ox oy cx cy; binOp op t cx cy : Sem Value).run P w' = .ok cv w' := by
  unfold binV at h
  split at h
  · rename_i k a k' b
    cases hx with | g hx => cases hx with | int => cases hy with | g hy => cases hy with | int =>
    cases op <;> simp only [] at h
    case shl =>
      by_cases hb : b < 0
      · simp [shiftOp, hb] at h
      · simp [shiftOp, hb] at h; subst h
        exact ⟨_, .g (.int _ _), fun w' => by simp [eqGuard_at_int, binOp, Op.shift, hb]⟩
    case shr =>
      by_cases hb : b < 0
      · simp [shiftOp, hb] at h
      · simp [shiftOp, hb] at h; subst h
        exact ⟨_, .g (.int _ _), fun w' => by simp [eqGuard_at_int, binOp, Op.shift, hb]⟩
    all_goals
      by_cases hk : k = k'
      · subst hk
        simp only [if_true] at h
        first
          | (by_cases hb : b = 0
             · simp [intOp, hb] at h
             · simp [intOp, hb] at h; subst h
               exact ⟨_, .g (.int _ _), fun w' => by simp [eqGuard_at_int, binOp, Op.intDiv, hb]⟩)
          | (simp [intOp] at h; subst h
             first
              | exact ⟨_, .g (.int _ _), fun w' => by simp [eqGuard_at_int, binOp, Op.intArith, Op.intBits]⟩
              | exact ⟨_, .g (.bool _), fun w' => by simp [eqGuard_at_int, binOp, Op.intCmp]⟩)
      · simp [hk] at h
  · rename_i a b
    cases hx with | g hx => cases hx with | str => cases hy with | g hy => cases hy with | str =>
    cases op <;> simp [strOp] at h
    case add =>
      obtain ⟨_, ⟨h1, rfl⟩, rfl⟩ := h
      refine ⟨_, .g (.str _), fun w' => ?_⟩
      have hs : ¬ ((((a.toArray.size + b.toArray.size : Nat)) : Int) > IntKind.i64.max) := by
        have : IntKind.i64.max = 9223372036854775807 := by decide
        simp only [List.size_toArray, this]; omega
      have e : (ByteArray.mk a.toArray ++ ByteArray.mk b.toArray) = ByteArray.mk (a ++ b).toArray := ByteArray.mk_append_mk a b
      simp only [eqGuard_at_string, binOp, Op.stringOp, pure_bind, Sem.run_ite, ByteArray.size_mk']
      rw [if_neg hs, e]; rfl
    all_goals
      subst h
      exact ⟨_, .g (.bool _), fun w' => by simp [eqGuard_at_string, binOp, Op.stringOp]⟩
  · cases h

/-! ### Equality -/
theorem eqL_append : ∀ (ks : List LK) (a b c d : List AV) (r : Bool) (k2 : List LK), a.length = ks.length → c.length = ks.length → eqL (ks ++ k2) (a ++ b) (c ++ d) = some r →
    ∃ r1 r2, eqL ks a c = some r1 ∧ eqL k2 b d = some r2 ∧ r = (r1 && r2) := by
  intro ks
  induction ks with
  | nil =>
    intro a b c d r k2 h1 h2 h
    simp at h1 h2
    subst h1 h2
    exact ⟨true, r, rfl, h, rfl⟩
  | cons k ks ih =>
    intro a b c d r k2 h1 h2 h
    match a, c, h1, h2, h with
    | x :: xs, y :: ys, h1, h2, h =>
      simp at h1 h2
      cases x <;> cases y <;> simp [eqL] at h
      rename_i gx gy
      cases hg : eqG k gx gy with
      | none => simp [hg] at h
      | some r1 =>
        cases hr : eqL (ks ++ k2) (xs ++ b) (ys ++ d) with
        | none => simp [hg, hr] at h
        | some r2 =>
          simp [hg, hr] at h
          obtain ⟨s1, s2, e1, e2, e3⟩ := ih xs b ys d r2 k2 h1 h2 hr
          exact ⟨r1 && s1, s2, by simp [eqL, hg, e1], e2, by rw [← h, e3, Bool.and_assoc]⟩

theorem eqL_length : ∀ {ks : List LK} {as bs : List AV} {r : Bool}, eqL ks as bs = some r → as.length = ks.length ∧ bs.length = ks.length := by
  intro ks
  induction ks with
  | nil => intro as bs r h; cases as <;> cases bs <;> simp [eqL] at h ⊢
  | cons k ks ih =>
    intro as bs r h
    cases as with
    | nil => simp [eqL] at h
    | cons x xs => cases bs with
      | nil => cases x <;> simp [eqL] at h
      | cons y ys =>
        cases x <;> cases y <;> simp [eqL] at h
        rename_i gx gy
        cases hg : eqG k gx gy with
        | none => simp [hg] at h
        | some r1 =>
          cases hr : eqL ks xs ys with
          | none => simp [hg, hr] at h
          | some r2 => simp [ih hr]

def CRel (E : Env) (as : List AV) (xs : Array Value) : Prop :=
  as.length = xs.size ∧ ∀ (j : Nat) (a : AV) (v : Value), as[j]? = some a → xs[j]? = some v → AR E a v

theorem run_isAgg {P : Program} {t : TypeId} {b : Bool} (h : aggT P t = some b) (w : World) : (isAgg t).run P w = .ok b w := by
  unfold aggT at h
  unfold isAgg
  cases hu : P.underlying t with
  | none => simp [hu] at h
  | some d =>
    rw [Sem.run_bind, run_underlying hu w]
    cases d <;> simp [hu] at h <;> subst h <;> rfl

theorem run_sizeOf {P : Program} {t : TypeId} {n : Nat} (h : szT P t = some n) (w : World) : (sizeOf t).run P w = .ok n w := by
  unfold szT at h
  cases hi : P.info? t with
  | none => simp [hi] at h
  | some i => simp [hi] at h; simp [sizeOf, typeInfo, hi, h]

theorem run_part {P : Program} {t : TypeId} {b : Bool} {n : Nat} (ha : aggT P t = some b) (hs : szT P t = some n) (xs : Array Value) (off : Nat) (w : World) :
    (part t xs off).run P w = if b then .ok (.agg (xs.extract off (off + n))) w else match xs[off]? with
      | some v => .ok v w
      | none => .halt (.stuck "part: no such cell") w := by
  unfold part
  rw [Sem.run_bind, run_isAgg ha]
  cases b
  · simp only [Result.andThen_ok, Bool.false_eq_true, if_false]
    cases xs[off]? <;> rfl
  · simp only [Result.andThen_ok, if_true]
    rw [Sem.run_bind, run_sizeOf hs]
    rfl

theorem CRel.extract {E : Env} {as : List AV} {xs : Array Value} (h : CRel E as xs) (off n : Nat) (hn : off + n ≤ as.length) : CRel E ((as.drop off).take n) (xs.extract off (off + n)) := by
  obtain ⟨h1, h2⟩ := h
  refine ⟨by simp; omega, fun j a v ha hv => ?_⟩
  by_cases hj : j < n
  · rw [List.getElem?_take_of_lt hj, List.getElem?_drop] at ha
    refine h2 (off + j) a v ha ?_
    rw [Array.getElem?_extract] at hv
    split at hv
    · exact hv
    · cases hv
  · rw [List.getElem?_take_eq_none (by omega)] at ha; cases ha

/-- A value of a flat type: one cell, or a struct's. -/
def mkV (agg : Bool) (xs : Array Value) : Value := if agg then .agg xs else xs.getD 0 Go.undef

theorem GR.inv_bool {E : Env} {b : Bool} {v : Value} (h : GR E (.bool b) v) : v = .bool b := by cases h; rfl
theorem GR.inv_int {E : Env} {k : IntKind} {n : Int} {v : Value} (h : GR E (.int k n) v) : v = .int k n := by cases h; rfl
theorem GR.inv_str {E : Env} {s : List UInt8} {v : Value} (h : GR E (.str s) v) : v = .string ⟨s.toArray⟩ := by cases h; rfl
theorem AR.inv_g {E : Env} {g : GV} {v : Value} (h : AR E (.g g) v) : GR E g v := by cases h; assumption

theorem flat_agg {P : Program} {d : Nat} {t : TypeId} {ks : List LK} (h : flatK P d t = some ks) : (∃ b, aggT P t = some b) ∧ szT P t = some ks.length := by
  cases d with
  | zero => simp [flatK] at h
  | succ d =>
    unfold flatK at h
    unfold aggT
    cases hu : P.underlying t with
    | none => simp [hu] at h
    | some u =>
      cases u <;> simp [hu] at h <;> try (obtain ⟨h1, rfl⟩ := h; exact ⟨⟨_, rfl⟩, by simpa using h1⟩)
      case struct fs =>
        obtain ⟨h0, h⟩ := h
        cases hf : flatF (flatK P d) fs.toList 0 with
        | none => simp [hf] at h
        | some ks' => simp [hf] at h; obtain ⟨h1, rfl⟩ := h; exact ⟨⟨_, rfl⟩, h1⟩

theorem one_cell {E : Env} {k : LK} {as bs : List AV} {xs ys : Array Value} {r : Bool} (hx : CRel E as xs) (hy : CRel E bs ys) (he : eqL [k] as bs = some r) :
    ∃ gx gy, eqG k gx gy = some r ∧ GR E gx (xs.getD 0 Go.undef) ∧ GR E gy (ys.getD 0 Go.undef) := by
  obtain ⟨hl1, hl2⟩ := eqL_length he
  obtain ⟨hx1, hx2⟩ := hx
  obtain ⟨hy1, hy2⟩ := hy
  match as, bs, hl1, hl2, he with
  | [x], [y], _, _, he =>
    cases x with
    | g gx => cases y with
      | g gy =>
        simp [eqL] at he
        cases hg : eqG k gx gy with
        | none => simp [hg] at he
        | some r1 =>
          simp [hg] at he
          refine ⟨gx, gy, by rw [← he]; exact hg, ?_, ?_⟩
          · have : xs[0]? = some (xs.getD 0 Go.undef) := by simp at hx1; simp [← hx1]
            exact (hx2 0 _ _ rfl this).inv_g
          · have : ys[0]? = some (ys.getD 0 Go.undef) := by simp at hy1; simp [← hy1]
            exact (hy2 0 _ _ rfl this).inv_g
      | _ => simp [eqL] at he
    | _ => simp [eqL] at he

theorem flat_eq {P : Program} {E : Env} : ∀ (d : Nat) (k : Nat) (t : TypeId) (b : Bool) (ks : List LK) (as bs : List AV) (xs ys : Array Value) (r : Bool) (w : World), flatK P d t = some ks → aggT P t = some b →
    CRel E as xs → CRel E bs ys → eqL ks as bs = some r → (Op.equalIn (d + k) t (mkV b xs) (mkV b ys)).run P w = .ok r w := by
  intro d
  induction d with
  | zero => intro k t b ks as bs xs ys r w h; simp [flatK] at h
  | succ d ih =>
    intro k t b ks as bs xs ys r w h ha hx hy he
    rw [show d + 1 + k = (d + k) + 1 by omega]
    unfold flatK at h
    cases hu : P.underlying t with
    | none => simp [hu] at h
    | some u =>
      cases u <;> simp [hu] at h
      case bool =>
        have hb : false = b := by simpa [aggT, hu] using ha
        obtain ⟨_, rfl⟩ := h
        obtain ⟨gx, gy, hg, h1, h2⟩ := one_cell hx hy he
        subst hb
        simp only [mkV, Bool.false_eq_true, if_false]
        generalize xs.getD 0 Go.undef = X at *; generalize ys.getD 0 Go.undef = Y at *
        cases gx <;> cases gy <;> simp [eqG] at hg
        rw [h1.inv_bool, h2.inv_bool, run_equalIn_bool w _ _ _ _ hu, ← hg]
      case int q =>
        have hb : false = b := by simpa [aggT, hu] using ha
        obtain ⟨_, rfl⟩ := h
        obtain ⟨gx, gy, hg, h1, h2⟩ := one_cell hx hy he
        subst hb
        simp only [mkV, Bool.false_eq_true, if_false]
        generalize xs.getD 0 Go.undef = X at *; generalize ys.getD 0 Go.undef = Y at *
        cases gx <;> cases gy <;> simp [eqG] at hg
        obtain ⟨rfl, hg⟩ := hg
        rw [h1.inv_int, h2.inv_int, run_equalIn_int w _ _ _ _ _ _ hu, ← hg]
      case string =>
        have hb : false = b := by simpa [aggT, hu] using ha
        obtain ⟨_, rfl⟩ := h
        obtain ⟨gx, gy, hg, h1, h2⟩ := one_cell hx hy he
        subst hb
        simp only [mkV, Bool.false_eq_true, if_false]
        generalize xs.getD 0 Go.undef = X at *; generalize ys.getD 0 Go.undef = Y at *
        cases gx <;> cases gy <;> simp [eqG] at hg
        rw [h1.inv_str, h2.inv_str, run_equalIn_string w _ _ _ _ hu, ← hg]
        simp
      case struct fs =>
        have hb : true = b := by simpa [aggT, hu] using ha
        subst hb
        obtain ⟨h0, h⟩ := h
        simp only [mkV, if_true]
        have hfs : P.fieldsOf t = fs := by simp [Program.fieldsOf, hu]
        rw [run_equalIn_struct w _ _ _ _ (by rw [hfs]; exact hu) h0, hfs]
        have key : ∀ (l : List Field) (n : Nat) (ks : List LK) (r : Bool), flatF (flatK P d) l n = some ks → as.length = n + ks.length → bs.length = n + ks.length → eqL ks (as.drop n) (bs.drop n) = some r →
            (Op.eqFields (d + k) xs ys l).run P w = .ok r w := by
          intro l
          induction l with
          | nil =>
            intro n ks r hf hl1 hl2 he
            simp [flatF] at hf
            subst hf
            simp at hl1 hl2
            rw [List.drop_eq_nil_of_le (by omega), List.drop_eq_nil_of_le (by omega)] at he
            simp [eqL] at he
            simp [Op.eqFields, he]
          | cons f l ihl =>
            intro n ks r hf hl1 hl2 he
            simp only [flatF] at hf
            split at hf
            · rename_i hc
              obtain ⟨hc1, hc2⟩ := hc
              cases hk1 : flatK P d f.type with
              | none => simp [hk1] at hf
              | some k1 =>
                cases hk2 : flatF (flatK P d) l (n + k1.length) with
                | none => simp [hk1, hk2] at hf
                | some k2 =>
                  simp [hk1, hk2] at hf
                  subst hf
                  simp at hl1 hl2
                  obtain ⟨⟨b1, hb1⟩, hs1⟩ := flat_agg hk1
                  have e1 : as.drop n = (as.drop n).take k1.length ++ as.drop (n + k1.length) := by rw [← List.drop_drop, List.take_append_drop]
                  have e2 : bs.drop n = (bs.drop n).take k1.length ++ bs.drop (n + k1.length) := by rw [← List.drop_drop, List.take_append_drop]
                  rw [e1, e2] at he
                  obtain ⟨r1, r2, he1, he2, rfl⟩ := eqL_append k1 _ _ _ _ r k2 (by simp; omega) (by simp; omega) he
                  have hx' := hx.extract n k1.length (by omega)
                  have hy' := hy.extract n k1.length (by omega)
                  have hq := ih k f.type b1 k1 _ _ _ _ r1 w hk1 hb1 hx' hy' he1
                  have hp : ∀ (zs : Array Value) (cs : List AV), CRel E cs zs → cs.length = n + (k1.length + k2.length) → 0 < k1.length ∨ b1 = true → (part f.type zs f.offset).run P w = .ok (mkV b1 (zs.extract n (n + k1.length))) w := by
                    intro zs cs hz hzl hpos
                    rw [run_part hb1 hs1, hc2]
                    cases b1
                    · have hpos' : 0 < k1.length := by simpa using hpos
                      have hlt : n < zs.size := by have := hz.1; omega
                      simp only [mkV, Bool.false_eq_true, if_false]
                      rw [Array.getElem?_eq_getElem hlt]
                      simp only
                      congr 1
                      have : (zs.extract n (n + k1.length)).getD 0 Go.undef = zs[n] := by
                        rw [Array.getD_eq_getD_getElem?, Array.getElem?_extract, if_pos (by omega)]
                        simp [hlt]
                      rw [this]
                    · simp [mkV]
                  have hpos : 0 < k1.length ∨ b1 = true := by
                    cases b1
                    · refine .inl ?_
                      cases d with
                      | zero => simp [flatK] at hk1
                      | succ d =>
                        unfold flatK at hk1
                        unfold aggT at hb1
                        cases hu1 : P.underlying f.type with
                        | none => simp [hu1] at hk1
                        | some u1 => cases u1 <;> simp [hu1] at hk1 hb1 <;> (obtain ⟨_, rfl⟩ := hk1; simp)
                    · exact .inr rfl
                  simp only [Op.eqFields, ne_eq, hc1, not_false_eq_true, if_true, Sem.run_bind]
                  rw [hp xs as hx hl1 hpos]
                  simp only [Result.andThen_ok]
                  rw [hp ys bs hy hl2 hpos]
                  simp only [Result.andThen_ok]
                  rw [hq]
                  simp only [Result.andThen_ok, Sem.run_ite]
                  cases r1
                  · simp
                  · simp only [Bool.not_true, Bool.false_eq_true, if_false, Bool.true_and]
                    exact ihl _ k2 r2 hk2 (by omega) (by omega) he2
            · cases hf
        cases hf : flatF (flatK P d) fs.toList 0 with
        | none => simp [hf] at h
        | some ks' =>
          simp [hf] at h
          obtain ⟨_, rfl⟩ := h
          obtain ⟨hl1, hl2⟩ := eqL_length he
          exact key fs.toList 0 ks' r hf (by omega) (by omega) (by simpa using he)

end Go.AM
