/- Part of the proof: the abstract machine, part 4 (AMTab, AMSort, AMErr, AMArms, AMWalk, AMWrap, AMTy, AMDoor, AMApi, AMLoop, AMDraw, AMBits, AMSlices, AMFuncs, AMAbb). No conditions. -/
import Derived.Test.YtenndgooepdmiaaGreatDoorAMJ3
import Derived.Laws.Externs
import Derived.Sort.OwnSortedInts
import Derived.Lib.SlKeysI
section
set_option linter.unusedSimpArgs false
set_option linter.unusedVariables false
namespace Go.AM
open Go

def lookF : List (Nat × IFunc) → Nat → Option IFunc
  | [], _ => none
  | (k, F) :: r, f => if k = f then some F else lookF r f

def AllC (P : Program) : List (Nat × IFunc) → Prop
  | [] => True
  | p :: r => (∃ esc hints, cFunc P p.1 esc hints = some p.2) ∧ AllC P r

theorem tab_ok {P : Program} (hm : P.follows .mixedOrders = true) : ∀ {l : List (Nat × IFunc)}, AllC P l → ∀ f F, lookF l f = some F → ∃ esc hints, cFunc P f esc hints = some F
  | [], _, f, F, h => by cases h
  | (k, G) :: r, ⟨h1, h2⟩, f, F, h => by
    simp only [lookF] at h
    split at h
    · rename_i e
      subst e
      cases h
      exact h1
    · exact tab_ok hm h2 f F h

/-- What functions without code answer: those that hand back what they are given. -/
def idX (ks : List Nat) : FnS := fun f args _ => match args with
  | [v] => if ks.contains f = true then some ⟨v, [], []⟩ else none
  | _ => none

def IdX (P : Program) (k : Nat) : Prop :=
  ∃ fn, P.funcs[k]? = some fn ∧ (fn.name == "runtime.NumGoroutine") = false ∧ fn.body.isNone = true ∧ Extern.findNext fn = none ∧ Extern.find fn = some Extern.AbiNoEscape.same

theorem idX_ok {P : Program} {ks : List Nat} (h : ∀ k, ks.contains k = true → IdX P k) : SndX P (idX ks) := by
  intro f args H r hr
  unfold idX at hr
  split at hr
  · rename_i v
    split at hr
    · rename_i hk
      cases hr
      obtain ⟨fn, h1, h2, h3, h4, h5⟩ := h f hk
      intro w L xs hw ha
      right
      refine ⟨by rw [← ha.1]; rfl, ?_⟩
      have hx : xs = #[xs[0]'(by rw [← ha.1]; exact Nat.one_pos)] := by
        apply Array.ext
        · simp [← ha.1]
        · intro i h1 h2
          have : i = 0 := by simp at h2; omega
          subst this; rfl
      have h0 := ha.2 0 v (xs[0]'(by rw [← ha.1]; exact Nat.one_pos)) rfl (by simp)
      refine ⟨xs[0]'(by rw [← ha.1]; exact Nat.one_pos), w, ?_, L, ?_, ?_, ?_, fun _ _ _ => ⟨rfl, fun _ _ _ => rfl⟩⟩
      · rw [run_callFunc_extern h1 h2 h3 h4 h5]
        generalize xs[0]'(by rw [← ha.1]; exact Nat.one_pos) = x0 at hx
        subst hx
        rfl
      · simpa [applyM] using h0
      · simpa [applyM] using hw
      · simpa [applyM] using Ext.refl _
    · cases hr
  · cases hr

/-- The rounds of ranges over functions, by their numbers. -/
def lookR : List (Nat × IRound) → Nat → Option IRound
  | [], _ => none
  | (k, R) :: r, f => if k = f then some R else lookR r f
def AllR (P : Program) : List (Nat × IRound) → Prop
  | [] => True
  | p :: r => RoundC P p.2 ∧ AllR P r
theorem rd_ok {P : Program} : ∀ {l : List (Nat × IRound)}, AllR P l → ∀ k R, lookR l k = some R → RoundC P R
  | [], _, k, R, h => by cases h
  | (a, S) :: r, ⟨h1, h2⟩, k, R, h => by
    simp only [lookR] at h
    split at h
    · cases h; exact h1
    · exact rd_ok h2 k R h
/-- The codes of the first range over a function in a code. -/
def rfOf : Code → Option (Array Tmp × Code × Code)
  | .rangeFunc _ ps a b => some (ps, a, b)
  | .seq a b | .cond _ a b => match rfOf a with
    | some r => some r
    | none => rfOf b
  | .block _ a | .loop a | .scope a => rfOf a
  | _ => none
/-- What the record of a function's first range over a function holds. -/
def rdAt (P : Program) (f key : Nat) : RD :=
  match P.funcs[f]? with
  | some fn => match fn.body.bind rfOf with
    | some (ps, a, b) => ⟨key, fn.ntmps, ps, a, b⟩
    | none => ⟨key, 0, #[], .skip, .skip⟩
  | none => ⟨key, 0, #[], .skip, .skip⟩
/-- What several tables of such functions answer. -/
def orX (X Y : FnS) : FnS := fun f args H => match X f args H with
  | some r => some r
  | none => Y f args H
theorem orX_ok {P : Program} {X Y : FnS} (hX : SndX P X) (hY : SndX P Y) : SndX P (orX X Y) := fun f args H r h => by
  unfold orX at h
  split at h
  · rename_i r' hr; cases h; exact hX f args H _ hr
  · exact hY f args H r h

/-! ### The words of a walk -/
theorem look_nil (i : Nat) : look [] i = none := rfl
theorem look_cons (a i : Nat) (v : AV) (t : List (Nat × AV)) : look ((a, v) :: t) i = if a = i then some v else look t i := rfl
theorem keep_nil (T : List (Nat × AV)) : keep T [] = [] := rfl
theorem keep_cons (T : List (Nat × AV)) (i : Nat) (l : List Nat) : keep T (i :: l) = match look T i with
    | some v => (i, v) :: keep T l
    | none => keep T l := rfl
theorem sk_normal (s : St) (k : St → Out) : sk (some (.normal, s)) k = k s := rfl
theorem sk_exit (i : Nat) (s : St) (k : St → Out) : sk (some (.exit i, s)) k = some (.exit i, s) := rfl
theorem sk_ret (s : St) (k : St → Out) : sk (some (.ret, s)) k = some (.ret, s) := rfl
theorem sk_none (k : St → Out) : sk none k = none := rfl
theorem sk_ite (c : Prop) [Decidable c] (a b : Out) (k : St → Out) : sk (if c then a else b) k = if c then sk a k else sk b k := by split <;> rfl
theorem kpN_normal (lv : List Nat) (s : St) : kpN lv (some (.normal, s)) = some (.normal, s.kp lv) := rfl
theorem kpN_exit (lv : List Nat) (i : Nat) (s : St) : kpN lv (some (.exit i, s)) = some (.exit i, s) := rfl
theorem kpN_ret (lv : List Nat) (s : St) : kpN lv (some (.ret, s)) = some (.ret, s) := rfl
theorem kpN_ite (lv : List Nat) (c : Prop) [Decidable c] (a b : Out) : kpN lv (if c then a else b) = if c then kpN lv a else kpN lv b := by split <;> rfl
theorem bk_normal (lv : List Nat) (id : Nat) (s : St) : bk lv id (some (.normal, s)) = some (.normal, s.kp lv) := rfl
theorem bk_exit (lv : List Nat) (id i : Nat) (s : St) : bk lv id (some (.exit i, s)) = if i = id then some (.normal, s.kp lv) else some (.exit i, s) := rfl
theorem bk_ret (lv : List Nat) (id : Nat) (s : St) : bk lv id (some (.ret, s)) = some (.ret, s) := rfl
theorem bk_ite (lv : List Nat) (id : Nat) (c : Prop) [Decidable c] (a b : Out) : bk lv id (if c then a else b) = if c then bk lv id a else bk lv id b := by split <;> rfl

end Go.AM
end
section
set_option linter.unusedSimpArgs false
set_option linter.unusedVariables false
namespace Go.AM
open Go

def sortL (zs : List Int) : List Int := zs.mergeSort fun x y => decide (x ≤ y)
def intG (z : Int) : List GV := [.int .i64 z]
def intsG : List (List GV) → Option (List Int)
  | [] => some []
  | [.int .i64 n] :: r => match intsG r with
    | some l => some (n :: l)
    | none => none
  | _ => none
theorem intsG_inv : ∀ {els : List (List GV)} {zs : List Int}, intsG els = some zs → els = zs.map intG
  | [], zs, h => by simp [intsG] at h; subst h; rfl
  | el :: els, zs, h => by
    unfold intsG at h
    split at h
    · rename_i heq; cases heq
    · rename_i n r heq
      split at h
      · rename_i l hl
        cases h
        cases heq
        rw [intsG_inv hl]; rfl
      · cases h
    · cases h
theorem intsG_map : ∀ (zs : List Int), intsG (zs.map intG) = some zs
  | [] => rfl
  | z :: zs => by
    have := intsG_map zs
    simp only [List.map_cons, intG, intsG, this]
theorem sortL_len (zs : List Int) : (sortL zs).length = zs.length := by simp [sortL]

/-- What slices.Sort of whole numbers does, as the model has it. -/
structure SortC (P : Program) (f : FuncId) : Prop where
  ent : ∀ args w, (callFunc f args).run P w = .ok (.enter f args) w
  run : ∀ (blk off cap : Nat) (zs : List Int) (w : World), Sort.Holds (Value.int .i64) w blk off zs.toArray → blk < w.heap.size → zs.length < 4611686018427387904 →
    Calls P f #[.slice (some ⟨blk, off, none⟩) zs.length cap] w fun e w' => e = .returned (.tuple #[]) ∧ ∃ n os, w' = Sort.grow (Sort.putRow (Value.int .i64) (Sort.ahead w n) blk off (sortL zs).toArray) os
  nil : ∀ (p : Option Addr) (cap : Nat) (w : World), Calls P f #[.slice p 0 cap] w fun e w' => e = .returned (.tuple #[]) ∧ w' = w

def sortA (args : List AV) (H : List Blk) : Option Res :=
  match args with
  | [.ms id gen 1 0 len] => match H[id]? with
    | some (.rows 1 g' els) => if g' = gen ∧ len = els.length ∧ len < 4611686018427387904 then match intsG els with
        | some zs => some ⟨.tup [], [(id, .rows 1 gen ((sortL zs).map intG))], []⟩
        | none => none else none
    | _ => none
  | [.g .nsl] => some ⟨.tup [], [], []⟩
  | _ => none
def sortX (f : FuncId) : FnS := fun g args H => if g = f then sortA args H else none

theorem one_arg {xs : Array Value} (h : 1 = xs.size) : ∃ x, xs = #[x] := by
  refine ⟨xs[0]'(by omega), ?_⟩
  apply Array.ext
  · simp [← h]
  · intro i h1 h2
    have : i = 0 := by simp at h2; omega
    subst this; rfl

theorem sort_ok {P : Program} {f : FuncId} (hC : SortC P f) : SndX P (sortX f) := by
  intro g args H r h
  unfold sortX at h
  split at h
  case isFalse => cases h
  rename_i hg
  subst hg
  unfold sortA at h
  split at h
  · rename_i id gen len
    split at h
    case h_2 => cases h
    rename_i g' els hH
    split at h
    case isFalse => cases h
    rename_i hcond
    obtain ⟨rfl, rfl, hlt⟩ := hcond
    split at h
    case h_2 => cases h
    rename_i zs hzs
    cases h
    have hels := intsG_inv hzs
    subst hels
    intro w L xs hr ha
    obtain ⟨x, rfl⟩ := one_arg ha.1
    refine .inl ⟨hC.ent _ _, ?_⟩
    have hx := ha.2 0 _ x rfl rfl
    obtain ⟨hg, ⟨hst, hg0⟩, hb⟩ := hr.blk id _ hH
    have hg' : (L id).gen = g' := hg
    have hms : MsOk (L id) 1 0 (zs.map intG).length x := by
      cases hx with
      | ms hid h0 hle h1 hm hz => exact hm hg'.symm
    have hlen : (zs.map intG).length = zs.length := by simp
    rw [hlen] at hms hlt
    -- nothing is there
    have empty : ∀ (p : Option Addr) (cap : Nat), x = .slice p 0 cap → zs = [] → Calls P g #[x] w fun e w' => ∃ v, e = .returned v ∧ ∃ L', AR (envOf w' (applyM H [(id, .rows 1 g' ((sortL zs).map intG))] ++ []) L') (.tup []) v ∧ HR w' (applyM H [(id, .rows 1 g' ((sortL zs).map intG))] ++ []) L' ∧
        Ext (envOf w H L) (envOf w' (applyM H [(id, .rows 1 g' ((sortL zs).map intG))] ++ []) L') ∧ Same w w' H L L' (keysM [(id, .rows 1 g' ((sortL zs).map intG))]) := by
      intro p cap hxe hz
      subst hz
      have e0 : applyM H [(id, Blk.rows 1 g' ((sortL []).map intG))] ++ [] = H := by
        simp only [applyM, List.append_nil]
        have : (sortL []).map intG = [] := by simp [sortL]
        rw [this]
        apply List.ext_getElem?
        intro i
        by_cases e : id = i
        · subst e
          rw [List.getElem?_set_self (List.getElem?_eq_some_iff.1 hH).1, hH]; rfl
        · rw [List.getElem?_set_ne e]
      rw [e0, hxe]
      exact Calls.mono (hC.nil p cap w) fun e w' ⟨h1, h2⟩ => ⟨_, h1, L, .tup rfl (fun j a v hj => by simp at hj), by rw [h2]; exact hr, by rw [h2]; exact .refl _, fun _ _ _ => by rw [h2]; exact ⟨rfl, fun _ _ _ => rfl⟩⟩
    unfold MsOk at hms
    cases hq : (L id).blk with
    | none =>
      rw [hq] at hms
      obtain ⟨h1, _, h3⟩ := hms
      exact empty none 0 h1 (List.eq_nil_of_length_eq_zero h3)
    | some b =>
      rw [hq] at hms
      obtain ⟨a, c, h1, h2, h3, h4⟩ := hms
      by_cases hz : zs = []
      · subst hz
        exact empty (some a) c h1 rfl
      have hne : zs.length ≠ 0 := fun e => hz (List.eq_nil_of_length_eq_zero e)
      have ha' : a = ⟨b, 0, none⟩ := by
        rcases h4 with h4 | h4
        · simpa using h4
        · omega
      subst ha'
      have hb' := hb
      rw [show (envOf w H L).L id = L id from rfl, hq] at hb'
      obtain ⟨T, C, hC1, hrow⟩ := hb'
      have hC1' : w.heap[b]? = some (.cells C T (0, 0)) := hC1
      have hcell : ∀ j, j < zs.length → C[j]? = some (.int .i64 zs[j]!) := by
        intro j hj
        obtain ⟨_, hrow3⟩ := hrow.2.2 j (intG zs[j]) (by simp [hj])
        obtain ⟨v, k1, k2⟩ := hrow3 0 (.int .i64 zs[j]) rfl
        have : v = .int .i64 zs[j] := by cases k2; rfl
        rw [this] at k1
        simp only [Nat.mul_one, Nat.add_zero] at k1
        rw [k1, getElem!_pos zs j hj]
      have hH0 : Sort.Holds (Value.int .i64) w b 0 zs.toArray := by
        intro j hj
        have hj' : j < zs.length := by simpa using hj
        refine ⟨?_, by simp [World.frozen?, hC1']⟩
        simp only [World.cell?, hC1', Nat.zero_add, Option.isSome_none, Bool.false_eq_true, if_false]
        rw [hcell j hj']
        simp [hj']
      have hbl : b < w.heap.size := (Array.getElem?_eq_some_iff.1 hC1').1
      have hrun := hC.run b 0 c zs w hH0 hbl hlt
      rw [h1]
      refine Calls.mono hrun fun e w' ⟨he, n, os, hw'⟩ => ⟨_, he, ?_⟩
      have hgr : w.grownBy w' (some b) := by rw [hw']; exact grownBy_sortedI _
      have hcells : w'.heap[b]? = some (.cells (Sort.putCells (Value.int .i64) 0 (sortL zs).toArray C) T (0, 0)) := by rw [hw']; exact heap_sortedI _ hC1'
      obtain ⟨t1, t2⟩ := hr.turn (w' := w') (k' := .rows 1 g' ((sortL zs).map intG)) hH rfl (L id) hgr.os hgr.tape hgr.output hgr.size (fun b' hb2 hne => hgr.block b' hb2 (fun e => hne (by rw [hq]; exact e.symm))) (.refl _ _) (fun b' hb2 => .inl hb2)
        (fun hext => by
          refine ⟨?_, ⟨?_, hg0⟩, ?_⟩
          · show ((updL L id (L id)) id).gen = _; rw [updL_self]; exact hg'
          · show ((updL L id (L id)) id).st = false; rw [updL_self]; exact hst
          · show (match ((updL L id (L id)) id).blk with | none => _ | some b => _)
            rw [updL_self, hq]
            refine ⟨T, _, hcells, ?_, ?_, fun i el hi => ?_⟩
            · show (Sort.putCells _ 0 _ C).size = ((updL L id (L id)) id).cap * 1
              rw [updL_self]
              simp only [Sort.putCells, Array.size_mapIdx]
              exact hrow.1
            · show ((sortL zs).map intG).length ≤ ((updL L id (L id)) id).cap
              rw [updL_self, List.length_map, sortL_len]
              have := hrow.2.1
              rw [List.length_map] at this
              exact this
            · simp only [List.getElem?_map, Option.map_eq_some_iff] at hi
              obtain ⟨z, hz1, rfl⟩ := hi
              refine ⟨rfl, fun j a hj => ?_⟩
              have hj0 : j = 0 := by
                cases j with
                | zero => rfl
                | succ j => simp [intG] at hj
              subst hj0
              have ha2 : a = .int .i64 z := by simpa [intG] using hj.symm
              subst ha2
              refine ⟨.int .i64 z, ?_, .int _ _⟩
              have hil : i < (sortL zs).length := (List.getElem?_eq_some_iff.1 hz1).1
              have hil2 : i < C.size := by
                have h5 : zs.length ≤ (L id).cap := by have := hrow.2.1; rw [List.length_map] at this; exact this
                have h6 : C.size = (L id).cap * 1 := hrow.1
                rw [sortL_len] at hil
                omega
              have hzi : (sortL zs)[i] = z := (List.getElem?_eq_some_iff.1 hz1).2
              simp [Sort.putCells, hil, hil2, hzi])
      refine ⟨updL L id (L id), ?_, ?_, ?_, ?_⟩
      · exact .tup rfl (fun j a v hj => by simp at hj)
      · simpa [applyM] using t1
      · simpa [applyM] using t2
      · intro j hj hne
        refine ⟨updL_ne _ _ _ (by simpa [keysM] using hne), fun ⟨x', hx', lx⟩ b' hb2 => ?_⟩
        refine hgr.block b' ((hr.blk j x' hx').lt lx hb2) (fun e => ?_)
        have e' : b' = b := by simpa using e
        subst e'
        have := hr.inj j id b' x' _ hx' hH lx rfl hb2 hq
        exact hne (by simp [keysM, this])
  · cases h
    intro w L xs hr ha
    obtain ⟨x, rfl⟩ := one_arg ha.1
    refine .inl ⟨hC.ent _ _, ?_⟩
    have hx := ha.2 0 _ x rfl rfl
    have : x = .slice none 0 0 := by cases hx with | g h => cases h; rfl
    subst this
    exact Calls.mono (hC.nil none 0 w) fun e w' ⟨h1, h2⟩ => ⟨_, h1, L, .tup rfl (fun j a v hj => by simp at hj), by simpa [applyM, h2] using hr, by simpa [applyM, h2] using Ext.refl _, fun _ _ _ => by rw [h2]; exact ⟨rfl, fun _ _ _ => rfl⟩⟩
  · cases h

/-! ### The keys of a map, sorted -/
/-- What slices.Sorted does of maps.Keys of a map whose keys are whole numbers, as the model has it. -/
structure KeysC (P : Program) (f gK : FuncId) (kt : TypeId) : Prop where
  ent : ∀ args w, (callFunc f args).run P w = .ok (.enter f args) w
  ku : P.underlying kt = some (.int .i64)
  run : ∀ (Bm b nn : Nat) (D0 : DataW Unit) (R : Value → Option (DataW Unit × List MemPlace)) (w : World), w.cell? ⟨Bm, 0, none⟩ = some (.map (some b)) → Bm < w.heap.size → w.ownsMap P kt R b nn D0 → Maps.size D0 ≤ maxLen → Maps.size D0 * 8 ≤ 140737488355328 →
    Calls P f #[.func (.func gK) #[] #[.pointer (some ⟨Bm, 0, none⟩)]] w fun e w' => ∃ (v : Value) (ss : List Int), e = .returned v ∧ ss.Perm (intKeys D0) ∧ (∃ et, w'.ownsRow w.heap.size et 1 v ss.length ((sortL ss).map (Value.int .i64))) ∧ (v = .slice none 0 0 ↔ ss = []) ∧ RowKit.Below w.heap.size w w'

def keysA (gK : FuncId) (args : List AV) (H : List Blk) : Option Res :=
  match args with
  | [.fv g [.ptr p 0]] => if g = gK then match H[p]? with
    | some (.cells [.mp id]) => match H[id]? with
      | some (.map es) => match intsG (es.map fun e => [e.1]) with
        | some ks => if ks.Nodup ∧ (ks.all fun k => (Lit.int .i64 k).wf) = true ∧ ks.length ≤ 1000000 then some ⟨.g (if ks = [] then .nsl else .sl 1 ((sortL ks).map intG)), [], []⟩ else none
        | none => none
      | _ => none
    | _ => none else none
  | _ => none
def keysX (f gK : FuncId) : FnS := fun g args H => if g = f then keysA gK args H else none

theorem keys_ok {P : Program} {f gK : FuncId} {kt : TypeId} (hC : KeysC P f gK kt) : SndX P (keysX f gK) := by
  intro g args H r h
  unfold keysX at h
  split at h
  case isFalse => cases h
  rename_i hg
  subst hg
  unfold keysA at h
  split at h
  case h_2 => cases h
  rename_i gg p
  split at h
  case isFalse => cases h
  rename_i hgg
  subst hgg
  split at h
  case h_2 => cases h
  rename_i id hHp
  split at h
  case h_2 => cases h
  rename_i es hHm
  split at h
  case h_2 => cases h
  rename_i ks hks
  split at h
  case isFalse => cases h
  rename_i hcond
  obtain ⟨hnd, hwf, hlen⟩ := hcond
  cases h
  intro w L xs hr ha
  obtain ⟨x, rfl⟩ := one_arg ha.1
  refine .inl ⟨hC.ent _ _, ?_⟩
  have hx := ha.2 0 _ x rfl rfl
  obtain ⟨pv, rfl, hpv⟩ : ∃ pv, x = .func (.func gg) #[] #[pv] ∧ AR (envOf w H L) (.ptr p 0) pv := by
    cases hx with
    | @fv _ _ C hn hc =>
      obtain ⟨y, rfl⟩ := one_arg (xs := C) (by simpa using hn)
      exact ⟨y, rfl, hc 0 _ y rfl rfl⟩
  obtain ⟨bp, rfl, hbp⟩ : ∃ bp, pv = .pointer (some ⟨bp, 0, none⟩) ∧ (L p).blk = some bp := by
    cases hpv with
    | ptr h1 h2 h3 => exact ⟨_, rfl, h3⟩
  obtain ⟨_, b1, T1, C1, q1, q2, q3⟩ := hr.blk p _ hHp
  have e1 : b1 = bp := by have : (L p).blk = some b1 := q1; rw [hbp] at this; exact (Option.some.inj this).symm
  subst e1
  have q2' : w.heap[b1]? = some (.cells C1 T1 (0, 0)) := q2
  obtain ⟨mv, q4, q5, _⟩ := q3.2 0 (.mp id) rfl
  obtain ⟨bm, rfl, hbm⟩ : ∃ bm, mv = .map (some bm) ∧ (L id).blk = some bm := by
    cases q5 with
    | mp h1 h2 h3 => exact ⟨_, rfl, h3⟩
  obtain ⟨_, b2, en, ck, m1, m2, m3, m4⟩ := hr.blk id _ hHm
  have e2 : b2 = bm := by have : (L id).blk = some b2 := m1; rw [hbm] at this; exact (Option.some.inj this).symm
  subst e2
  have m2' : w.heap[b2]? = some (.map en ck) := m2
  have hes := intsG_inv hks
  have hkeys : en.toList.map (·.key) = ks.map (Value.int .i64) := by
    apply List.ext_getElem
    · have h1 := m3.1
      have h2 := congrArg List.length hes
      simp at h2 ⊢
      omega
    · intro i h1 h2
      simp only [List.length_map] at h1 h2
      have h3 : i < es.length := by have := m3.1; simp at h1; omega
      obtain ⟨k1, _⟩ := m3.2 i es[i] (en[i]'(by simpa using h1)) (List.getElem?_eq_getElem h3) (Array.getElem?_eq_getElem _)
      have h4 : [(es[i]).1] = intG ks[i] := by
        have : (es.map fun e => [e.1])[i]? = (ks.map intG)[i]? := by rw [hes]
        simpa [h3, h2] using this
      have h5 : (es[i]).1 = .int .i64 ks[i] := by simpa [intG] using h4
      rw [h5] at k1
      have h6 : (en[i]'(by simpa using h1)).key = .int .i64 ks[i] := by
        generalize (en[i]'(by simpa using h1)).key = q at k1
        cases k1; rfl
      simpa using h6
  have hsz : en.size = ks.length := by have := congrArg List.length hkeys; simpa using this
  have hcell : w.cell? ⟨b1, 0, none⟩ = some (.map (some b2)) := by
    simp only [World.cell?, q2', Option.isSome_none, Bool.false_eq_true, if_false]
    exact q4
  let R : Value → Option (DataW Unit × List MemPlace) := fun _ => some (.nil, [])
  have hmem : ∀ y ∈ en.toList, ∃ z ∈ ks, y.key = .int .i64 z := fun y hy => by
    have : y.key ∈ en.toList.map (·.key) := List.mem_map.2 ⟨y, hy, rfl⟩
    rw [hkeys] at this
    obtain ⟨z, hz, hz2⟩ := List.mem_map.1 this
    exact ⟨z, hz, hz2.symm⟩
  have hrd : ∀ y ∈ en.toList, ∀ z, y.key = .int .i64 z → z ∈ ks → WideElems.rd P kt R y = some (.int .i64 z, .nil) := fun y hy z hz hzk => by
    have := Maps.keyOf_int_mk hC.ku (a := z) (List.all_eq_true.1 hwf z hzk)
    simp only [WideElems.rd, hz, this, Option.bind_some, R, Option.map_some]
  have hfit : WideElems.Fit P kt R en ck := by
    refine ⟨by rw [hsz]; exact Nat.le_trans hlen (by decide), ⟨m4.1, m4.2, ?_⟩, fun y hy => ?_⟩
    · rw [hkeys]
      exact hnd.map _ (fun a b hab => by simpa using hab)
    · obtain ⟨z, hz, hz2⟩ := hmem y hy
      exact ⟨_, hrd y hy z hz2 hz⟩
  have hown : w.ownsMap P kt R b2 en.size (.map ((en.toList.map (WideElems.rg P kt R)).foldr DataW.insert [])) := ⟨en, ck, m2', hfit, Nat.le_refl _, rfl⟩
  have hperm : (intKeys (.map ((en.toList.map (WideElems.rg P kt R)).foldr DataW.insert []) : DataW Unit)).Perm ks := by
    have h1 := (WideShapes.sorted_perm (H := Unit) (en.toList.map (WideElems.rg P kt R))).map fun p => intOf p.1
    have h2 : (en.toList.map (WideElems.rg P kt R)).map (fun p => intOf p.1) = ks := by
      rw [List.map_map]
      have h3 : en.toList.map ((fun p : Lit × DataW Unit => intOf p.1) ∘ WideElems.rg P kt R) = (en.toList.map (·.key)).map fun v => match v with | .int _ z => z | _ => 0 := by
        rw [List.map_map]
        refine List.map_congr_left fun y hy => ?_
        obtain ⟨z, hz, hz2⟩ := hmem y hy
        simp [WideElems.rg, hrd y hy z hz2 hz, intOf, hz2]
      rw [h3, hkeys, List.map_map]
      simp [Function.comp_def]
    rw [h2] at h1
    exact h1
  have hsize : Maps.size (.map ((en.toList.map (WideElems.rg P kt R)).foldr DataW.insert []) : DataW Unit) = ks.length := by
    rw [← hperm.length_eq]
    simp [Maps.size, intKeys]
  refine Calls.mono (hC.run b1 b2 en.size _ R w hcell (Array.getElem?_eq_some_iff.1 q2').1 hown (by rw [hsize]; exact Nat.le_trans hlen (by decide)) (by rw [hsize]; omega)) fun e w' ⟨v, ss, he, hp, ⟨et, hrow⟩, hnil, hbel⟩ => ⟨v, he, L, ?_⟩
  have hg : Grows w w' := ⟨hbel.os, hbel.tape, hbel.output, hbel.size, hbel.block⟩
  obtain ⟨g1, g2⟩ := hr.grow hg
  have hpk : ss.Perm ks := hp.trans hperm
  have hsort : sortL ss = sortL ks := mergeSort_of_perm_i hpk
  refine ⟨?_, by simpa [applyM] using g1, by simpa [applyM] using g2, fun id' hid' _ => ⟨rfl, fun ⟨x', hx', lx⟩ b' hb' => hg.old b' ((hr.blk id' x' hx').lt lx hb')⟩⟩
  simp only [applyM, List.append_nil]
  by_cases hk0 : ks = []
  · subst hk0
    have hs0 : ss = [] := hpk.eq_nil
    rw [if_pos rfl, hnil.2 hs0]
    exact .g .nsl
  · rw [if_neg hk0]
    have hs0 : ss ≠ [] := fun e => hk0 (by subst e; exact hpk.symm.eq_nil)
    rcases hrow.2 with ⟨h0, _⟩ | ⟨g', cap, cur, rfl, hge, hcur, hle, hcap, hcs, htake⟩
    · exact absurd (hnil.1 h0) hs0
    · have hcellv : ∀ (i : Nat) (z : Int), (sortL ks)[i]? = some z → cur[i]? = some (Value.int .i64 z) := by
        intro i z hi
        have h1 : (cur.toList.take (ss.length * 1))[i]? = some (.int .i64 z) := by
          rw [htake, hsort, List.getElem?_map, hi]; rfl
        have h2 : i < ss.length * 1 := by
          have := (List.getElem?_eq_some_iff.1 hi).1
          rw [sortL_len, ← hpk.length_eq] at this; omega
        rw [List.getElem?_take_of_lt h2] at h1
        simpa using h1
      have hlen2 : ((sortL ks).map intG).length = ss.length := by rw [List.length_map, sortL_len, hpk.length_eq]
      have key := GR.sl (E := envOf w' H L) (sz := 1) (b := g') (o := 0) (cap := cap) (els := (sortL ks).map intG) (fun i j => Value.int .i64 ((sortL ks).getD i 0)) (by omega) (Array.getElem?_eq_some_iff.1 hcur).1
        (fun ⟨i, k, k1, k2, k3⟩ => by have := (hr.blk i k k1).lt k2 k3; simp [envOf] at this; omega) (fun i el hi => by
          simp only [List.getElem?_map, Option.map_eq_some_iff] at hi
          obtain ⟨z, _, rfl⟩ := hi; rfl) (fun i el j a hi hj => by
          simp only [List.getElem?_map, Option.map_eq_some_iff] at hi
          obtain ⟨z, hz, rfl⟩ := hi
          have hj0 : j = 0 := by
            cases j with
            | zero => rfl
            | succ j => simp [intG] at hj
          subst hj0
          show w'.cell? ⟨g', 0 + i * 1 + 0, none⟩ = _
          simp only [World.cell?, hcur, Option.isSome_none, Bool.false_eq_true, if_false, Nat.zero_add, Nat.mul_one, Nat.add_zero]
          rw [hcellv i z hz]
          simp [List.getD, hz]) (fun i el j a hi hj => by
          simp only [List.getElem?_map, Option.map_eq_some_iff] at hi
          obtain ⟨z, hz, rfl⟩ := hi
          have hj0 : j = 0 := by
            cases j with
            | zero => rfl
            | succ j => simp [intG] at hj
          subst hj0
          have ha2 : a = .int .i64 z := by simpa [intG] using hj.symm
          subst ha2
          simp only [List.getD, hz, Option.getD_some]
          exact GR.int _ _)
      rw [hlen2] at key
      exact .g key
end Go.AM
end
section
set_option linter.unusedSimpArgs false
set_option linter.unusedVariables false
namespace Go.AM
open Go

/-- What errors.Is does of a pointer to a struct of two cells (t: the pointer's type) whose second one holds an error of errors.New's make (e: its type), as the model has it. -/
structure IsC (P : Program) (f : FuncId) (t e : TypeId) : Prop where
  ent : ∀ args w, (callFunc f args).run P w = .ok (.enter f args) w
  same : ∀ (pb : Nat) (b : Addr) (w : World), w.cell? ⟨pb, 1, none⟩ = some (.iface e (.pointer (some b))) →
    Calls P f #[.iface t (.pointer (some ⟨pb, 0, none⟩)), .iface e (.pointer (some b))] w fun x w' => x = .returned (.bool true) ∧ w' = w
  other : ∀ (pb : Nat) (b a : Addr) (ca cb : Array Value) (ta tb : TypeId) (w : World), w.cell? ⟨pb, 1, none⟩ = some (.iface e (.pointer (some a))) → a ≠ b →
    w.heap[a.block]? = some (.cells ca ta (0, 0)) → w.heap[b.block]? = some (.cells cb tb (0, 0)) →
    Calls P f #[.iface t (.pointer (some ⟨pb, 0, none⟩)), .iface e (.pointer (some b))] w fun x w' => x = .returned (.bool false) ∧ w' = w

def isA (t e : TypeId) (args : List AV) (H : List Blk) : Option Res :=
  match args with
  | [.ifa t' (.ptr id 0), .g (.sen k e' b)] => match H[id]? with
    | some (.cells [_, .g (.sen k' e2 b')]) => if t' = t ∧ e' = e ∧ e2 = e then (if k = k' then some ⟨.g (.bool true), [], []⟩ else if b = b' then none else some ⟨.g (.bool false), [], []⟩) else none
    | _ => none
  | _ => none
def isX (f : FuncId) (t e : TypeId) : FnS := fun g args H => if g = f then isA t e args H else none

theorem two_args {xs : Array Value} (h : 2 = xs.size) : ∃ x y, xs = #[x, y] := by
  obtain ⟨l⟩ := xs
  match l, h with
  | [x, y], _ => exact ⟨x, y, rfl⟩

theorem isX_ok {P : Program} {f : FuncId} {t e : TypeId} (hC : IsC P f t e) : SndX P (isX f t e) := by
  intro g args H r h
  unfold isX at h
  split at h
  case isFalse => cases h
  rename_i hg
  subst hg
  unfold isA at h
  split at h
  case h_2 => cases h
  rename_i t' id k e' b
  split at h
  case h_2 => cases h
  rename_i x k' e2 b' hH
  split at h
  case isFalse => cases h
  rename_i hc
  obtain ⟨rfl, rfl, rfl⟩ := hc
  intro w L xs hr ha
  obtain ⟨v1, v2, rfl⟩ := two_args ha.1
  have h1 := ha.2 0 _ v1 rfl rfl
  have h2 := ha.2 1 _ v2 rfl rfl
  have hB : HB (envOf w H L) id (.cells [x, .g (.sen k' e2 b')]) := hr.blk id _ hH
  obtain ⟨hst, pb, T, C, hp1, hp2, hp3, hp4⟩ := hB
  obtain ⟨v3, hv3, hA3, _⟩ := hp4 1 (.g (.sen k' e2 b')) rfl
  have hcell : w.cell? ⟨pb, 1, none⟩ = some v3 := by
    have : w.heap[pb]? = some (.cells C T (0, 0)) := hp2
    simp [World.cell?, this, hv3]
  refine .inl ⟨hC.ent _ _, ?_⟩
  cases h1 with
  | ifa _ h1 =>
    cases h1 with
    | @ptr _ _ q hid hgen hb =>
      rw [hp1] at hb
      cases hb
      cases hA3.inv_g with
      | @sen _ _ _ a1 C1 T1 g1 o1 c1 s1 os1 b1 t1 =>
        cases h2.inv_g with
        | @sen _ _ _ a2 C2 T2 g2 o2 c2 s2 os2 b2 t2 =>
          have fin : ∀ r', r = ⟨.g (.bool r'), [], []⟩ → Calls P g #[.iface t' (.pointer (some ⟨pb, 0, none⟩)), .iface e2 (.pointer (some a2))] w (fun x w' => x = .returned (.bool r') ∧ w' = w) →
              Calls P g #[.iface t' (.pointer (some ⟨pb, 0, none⟩)), .iface e2 (.pointer (some a2))] w fun e w' => ∃ v, e = .returned v ∧ ∃ L', AR (envOf w' (applyM H r.m ++ r.o) L') r.r v ∧ HR w' (applyM H r.m ++ r.o) L' ∧
                Ext (envOf w H L) (envOf w' (applyM H r.m ++ r.o) L') ∧ Same w w' H L L' (keysM r.m) := by
            rintro r' rfl hcl
            exact Calls.mono hcl fun e w' ⟨k1, k2⟩ => ⟨_, k1, L, .g (.bool r'), by simpa [applyM, k2] using hr, by simpa [applyM, k2] using Ext.refl _, fun _ _ _ => by rw [k2]; exact ⟨rfl, fun _ _ _ => rfl⟩⟩
          split at h
          · rename_i hk
            subst hk
            have e0 := c1.symm.trans c2
            simp only [Option.some.injEq, Value.iface.injEq, Value.pointer.injEq, true_and, and_self] at e0
            subst e0
            exact fin true (by cases h; rfl) (hC.same pb a1 w hcell)
          · split at h
            · cases h
            · rename_i hbb
              refine fin false (by cases h; rfl) (hC.other pb a2 a1 C1 C2 T1 T2 w hcell (fun e => ?_) b1 b2)
              subst e
              have e0 := t1.symm.trans t2
              simp only [Option.some.injEq, Value.string.injEq, ByteArray.mk.injEq] at e0
              have e1 : b' = b := by simpa using e0
              exact hbb e1.symm

/-! ### The package's variables at the front -/
/-- The heap begins with variables that hold errors of errors.New's make, each where its number says. -/
def GlbL (H : List Blk) (l : List (Nat × TypeId × List UInt8)) : Prop := ∀ p ∈ l, H[p.1]? = some (.gsen p.2.1 p.2.2)
theorem GlbL.app {H : List Blk} {l : List (Nat × TypeId × List UInt8)} (h : GlbL H l) (o : List Blk) : GlbL (H ++ o) l := fun p hp => by
  have := h p hp
  rw [List.getElem?_append_left (List.getElem?_eq_some_iff.1 this).1]; exact this
theorem getB_glb {H : List Blk} {g : Nat} {t : TypeId} {b : List UInt8} (h : H[g]? = some (.gsen t b)) (s : List (Nat × AV)) (o : List Blk) : getB H ⟨s, [], o⟩ g = some (.gsen t b) := by
  unfold getB
  rw [if_pos (List.getElem?_eq_some_iff.1 h).1]
  exact h

end Go.AM
end
section
set_option linter.unusedSimpArgs false
set_option linter.unusedVariables false
set_option linter.constructorNameAsVariable false
namespace Go.AM
open Go

@[simp ↓] theorem ob_some' {α β : Type} (a : α) (k : α → Option β) : ob (some a) k = k a := rfl
@[simp ↓] theorem ob_none' {α β : Type} (k : α → Option β) : ob none k = none := rfl
@[simp ↓] theorem ob_ite {α β : Type} (c : Prop) [Decidable c] (x y : Option α) (k : α → Option β) : ob (if c then x else y) k = if c then ob x k else ob y k := by split <;> rfl
theorem ob_congr {α β : Type} {x x' : Option α} (hx : x = x') (k : α → Option β) : ob x k = ob x' k := by rw [hx]
attribute [congr] ob_congr

/-! ### Values, seen as such -/
def asB : AV → Option Bool
  | .g (.bool b) => some b
  | _ => none
def asI : AV → Option (IntKind × Int)
  | .g (.int k n) => some (k, n)
  | _ => none
def asS : AV → Option (List UInt8)
  | .g (.str b) => some b
  | _ => none
def asAgg : AV → Option (List AV)
  | .agg cs => some cs
  | _ => none
def asTup : AV → Option (List AV)
  | .tup cs => some cs
  | _ => none
def asCells : Option Blk → Option (List AV)
  | some (.cells cs) => some cs
  | some (.bld _ cs) => some cs
  | _ => none
def asBld : Option Blk → Option (TypeId × List AV)
  | some (.bld T cs) => some (T, cs)
  | _ => none
def asTrow : Option Blk → Option (TypeId × Nat × Nat × List (List GV))
  | some (.trow T sz g els) => some (T, sz, g, els)
  | _ => none
def asRows : Option Blk → Option (Nat × Nat × List (List GV))
  | some (.rows sz g els) => some (sz, g, els)
  | _ => none
@[simp] theorem asB_g (b : Bool) : asB (.g (.bool b)) = some b := by simp only [asB]
@[simp] theorem asI_g (k : IntKind) (n : Int) : asI (.g (.int k n)) = some (k, n) := by simp only [asI]
@[simp] theorem asS_g (b : List UInt8) : asS (.g (.str b)) = some b := by simp only [asS]
@[simp] theorem asAgg_g (cs : List AV) : asAgg (.agg cs) = some cs := by simp only [asAgg]
@[simp] theorem asTup_g (cs : List AV) : asTup (.tup cs) = some cs := by simp only [asTup]
@[simp] theorem asCells_g (cs : List AV) : asCells (some (.cells cs)) = some cs := by simp only [asCells]
@[simp] theorem asCells_b (T : TypeId) (cs : List AV) : asCells (some (.bld T cs)) = some cs := by simp only [asCells]
@[simp] theorem asBld_g (T : TypeId) (cs : List AV) : asBld (some (.bld T cs)) = some (T, cs) := by simp only [asBld]
@[simp] theorem asTrow_g (T : TypeId) (sz g : Nat) (els : List (List GV)) : asTrow (some (.trow T sz g els)) = some (T, sz, g, els) := by simp only [asTrow]
@[simp] theorem asRows_g (sz g : Nat) (els : List (List GV)) : asRows (some (.rows sz g els)) = some (sz, g, els) := by simp only [asRows]

def negIf (c b : Bool) : Bool := if c then !b else b
@[simp] theorem negIf_true (b : Bool) : negIf true b = !b := rfl
@[simp] theorem negIf_false (b : Bool) : negIf false b = b := rfl

/-! ### Arms that read -/
def faddrV (h : List Blk) (s : St) (off : Nat) : AV → Option (AV × List Nat)
  | .ptr id o => some (.ptr id (o + off), [])
  | .cp cs => some (.cp (cs.drop off), [])
  | .rp id g sz i o => if cur h s id g = true then some (.rp id g sz i (o + off), []) else none
  | _ => none
def iaddrV (h : List Blk) (s : St) (sz : Nat) : AV → Int → Option (AV × List Nat)
  | .g (.sl sz' els), n => if sz = sz' ∧ 0 ≤ n then ob (els[n.toNat]?) fun el => some (.cp el, []) else none
  | .ms id g sz' off len, n => if sz = sz' ∧ 0 ≤ n ∧ n < len ∧ cur h s id g = true then some (.rp id g sz (off + n.toNat) 0, []) else none
  | _, _ => none
def iaddrAV (len sz : Nat) : AV → Int → Option (AV × List Nat)
  | .ptr id o, n => if 0 ≤ n ∧ n < len then some (.ptr id (o + n.toNat * sz), []) else none
  | .cp cs, n => if 0 ≤ n ∧ n < len then some (.cp (cs.drop (n.toNat * sz)), []) else none
  | _, _ => none
def loadV (h : List Blk) (s : St) (agg : Bool) (n : Nat) : AV → Option (AV × List Nat)
  | .ptr id o => ob (asCells (getB h s id)) fun cs => ob (sub agg n ((cs.drop o).take n)) fun x => some (x, [id])
  | .cp cs => ob (sub agg n ((cs.take n).map .g)) fun x => some (x, [])
  | .rp id g sz i o => ob (asRows (getB h s id)) fun r => if g = r.2.1 ∧ sz = r.1 then ob (r.2.2[i]?) fun el => ob (sub agg n (((el.drop o).take n).map .g)) fun x => some (x, [id]) else none
  | _ => none
/-- One thing behind another, or else. -/
def ob2 {α β : Type} (x : Option α) (k : α → Option β) (n : Option β) : Option β :=
  match x with
  | some a => k a
  | none => n
@[simp ↓] theorem ob2_some {α β : Type} (a : α) (k : α → Option β) (n : Option β) : ob2 (some a) k n = k a := rfl
@[simp ↓] theorem ob2_none {α β : Type} (k : α → Option β) (n : Option β) : ob2 none k n = n := rfl
@[simp ↓] theorem ob2_ite {α β : Type} (c : Prop) [Decidable c] (x y : Option α) (k : α → Option β) (n : Option β) : ob2 (if c then x else y) k n = if c then ob2 x k n else ob2 y k n := by split <;> rfl
theorem ob2_congr {α β : Type} {x x' : Option α} (hx : x = x') (k : α → Option β) (n : Option β) : ob2 x k n = ob2 x' k n := by rw [hx]
attribute [congr] ob2_congr
@[simp] theorem slcW_none (h : List Blk) (s : St) (id g sz off : Nat) (lo : Option Opd) : slcW h s id g sz off lo none = none := by simp only [slcW]
@[simp] theorem slcW_some (h : List Blk) (s : St) (id g sz off : Nat) (lo : Option Opd) (hi : Opd) : slcW h s id g sz off lo (some hi) = ob (rowLen h s id g) fun n => if off ≤ n then ob (cutB s (n - off) lo (some hi)) fun p => some (.ms id g sz (off + p.1) (p.2 - p.1), []) else none := by
  simp only [slcW]
  rcases rowLen h s id g with _ | n
  · rfl
  · simp only [ob]
    split
    · rcases cutB s (n - off) lo (some hi) with _ | ⟨a, b⟩ <;> rfl
    · rfl
theorem rowLen_eq (h : List Blk) (s : St) (id g : Nat) : rowLen h s id g = ob (asRows (getB h s id)) fun r => if g = r.2.1 then some r.2.2.length else none := by
  unfold rowLen
  rcases getB h s id with _ | b
  · rfl
  · cases b <;> rfl
attribute [simp] rowLen_eq
@[simp] theorem slc3V_ms (h : List Blk) (s : St) (k id g sz off len : Nat) (lo hi : Opd) (kd : IntKind) (m : Int) : slc3V h s k lo hi (.ms id g sz off len) (.g (.int kd m)) =
    if k = sz ∧ cur h s id g = true ∧ 0 ≤ m ∧ m ≤ len then ob (cutB s m.toNat (some lo) (some hi)) fun _ => some (.any, []) else none := by
  simp only [slc3V]
  split
  · cases cutB s m.toNat (some lo) (some hi) <;> rfl
  · rfl
def slcV (h : List Blk) (s : St) (k : Nat) (lo hi : Option Opd) : AV → Option (AV × List Nat)
  | .g (.sl sz els) => if k = sz then ob (cutB s els.length lo hi) fun p => some (.g (.sl sz ((els.take p.2).drop p.1)), []) else none
  | .g .nsl => ob (cutB s 0 lo hi) fun p => some (.g .nsl, [])
  | .ms id g sz off len => if k = sz then ob2 (cutB s len lo hi) (fun p => if cur h s id g = true then some (.ms id g sz (off + p.1) (p.2 - p.1), []) else none) (slcW h s id g sz off lo hi) else none
  | _ => none
def nilchkV : AV → Option (AV × List Nat)
  | .ptr i o => some (.ptr i o, [])
  | .cp cs => some (.cp cs, [])
  | .fv f cs => some (.fv f cs, [])
  | .g (.fn f) => some (.g (.fn f), [])
  | .g (.ifc t v) => some (.g (.ifc t v), [])
  | .ifa t v => some (.ifa t v, [])
  | _ => none
def mkifV (t : TypeId) : AV → Option (AV × List Nat)
  | .g v => some (.g (.ifc t v), [])
  | .ptr i o => some (.ifa t (.ptr i o), [])
  | _ => none
def capV : AV → Option (AV × List Nat)
  | .g .nsl => some (.g (.int .i64 0), [])
  | _ => none
attribute [simp] faddrV iaddrV iaddrAV loadV slcV nilchkV mkifV capV

section
variable (h : List Blk) (s : St)
theorem armP_mov (x : Opd) : evP h s (.mov x) = ob (val s x) fun v => some (v, []) := by simp only [evP]; cases val s x <;> rfl
theorem armP_pick (c a b : Opd) : evP h s (.pick c a b) = ob (val s c) fun v => ob (asB v) fun x => if x = true then ob (val s a) (fun v => some (v, [])) else ob (val s b) fun v => some (v, []) := by
  simp only [evP]
  rcases val s c with _ | v
  · rfl
  · cases v <;> try rfl
    rename_i g; cases g <;> rfl
theorem armP_bin (op : BinOp) (x y : Opd) : evP h s (.bin op x y) = ob (val s x) fun a => ob (val s y) fun b => ob (binV op a b) fun v => some (v, []) := by
  simp only [evP]
  rcases val s x with _ | a
  · rfl
  · rcases val s y with _ | b
    · rfl
    · simp only [ob]; cases binV op a b <;> rfl
theorem armP_eqs (neq ag : Bool) (ks : List LK) (x y : Opd) : evP h s (.eqs neq ag ks x y) = ob (val s x) fun a => ob (val s y) fun b => ob (eqV ag ks a b) fun r => some (.g (.bool (negIf neq r)), []) := by
  simp only [evP]
  rcases val s x with _ | a
  · rfl
  · rcases val s y with _ | b
    · rfl
    · simp only [ob]; cases eqV ag ks a b <;> rfl
theorem armP_isnil (neq : Bool) (kd : Nat) (x : Opd) : evP h s (.isnil neq kd x) = ob (val s x) fun a => ob (isNil kd a) fun r => some (.g (.bool (negIf neq r)), []) := by
  simp only [evP]
  rcases val s x with _ | a
  · rfl
  · simp only [ob]; cases isNil kd a <;> rfl
theorem armP_isnilS (neq : Bool) (x : Opd) : evP h s (.isnilS neq x) = ob (val s x) fun a => ob (isNilS h s a) fun r => some (.g (.bool (negIf neq r)), []) := by
  simp only [evP]
  rcases val s x with _ | a
  · rfl
  · simp only [ob]; cases isNilS h s a <;> rfl
@[simp] theorem isNilS_nsl : isNilS h s (.g .nsl) = some true := by simp only [isNilS]
@[simp] theorem isNilS_sl (sz : Nat) (els : List (List GV)) : isNilS h s (.g (.sl sz els)) = some false := by simp only [isNilS]
@[simp] theorem isNilS_ms (id g a b c : Nat) : isNilS h s (.ms id g a b c) = if cur h s id g = true then some (g == 1) else none := by simp only [isNilS]
theorem armP_not (x : Opd) : evP h s (.un .not x) = ob (val s x) fun v => ob (asB v) fun b => some (.g (.bool (!b)), []) := by
  simp only [evP]
  rcases val s x with _ | v
  · rfl
  · cases v <;> try rfl
    rename_i g; cases g <;> rfl
theorem armP_neg (x : Opd) : evP h s (.un .neg x) = ob (val s x) fun v => ob (asI v) fun p => some (.g (.int p.1 (p.1.wrap (-p.2))), []) := by
  simp only [evP]
  rcases val s x with _ | v
  · rfl
  · cases v <;> try rfl
    rename_i g; cases g <;> rfl
theorem armP_conv (k : IntKind) (x : Opd) : evP h s (.conv k x) = ob (val s x) fun v => ob (asI v) fun p => some (.g (.int k (k.wrap p.2)), []) := by
  simp only [evP]
  rcases val s x with _ | v
  · rfl
  · cases v <;> try rfl
    rename_i g; cases g <;> rfl
theorem armP_convId (x : Opd) : evP h s (.convId x) = ob (val s x) fun v => ob (asS v) fun b => some (.g (.str b), []) := by
  simp only [evP]
  rcases val s x with _ | v
  · rfl
  · cases v <;> try rfl
    rename_i g; cases g <;> rfl
theorem armP_field (agg : Bool) (off n : Nat) (x : Opd) : evP h s (.field agg off n x) = ob (val s x) fun v => ob (asAgg v) fun cs => ob (sub agg n ((cs.drop off).take n)) fun v => some (v, []) := by
  simp only [evP]
  rcases val s x with _ | v
  · rfl
  · cases v <;> rfl
theorem armP_faddr (off : Nat) (x : Opd) : evP h s (.faddr off x) = ob (val s x) fun v => faddrV h s off v := by
  simp only [evP]
  rcases val s x with _ | v
  · rfl
  · cases v <;> rfl
theorem armP_iaddr (sz : Nat) (x i : Opd) : evP h s (.iaddr sz x i) = ob (val s x) fun v => ob (val s i) fun i => ob (asI i) fun p => iaddrV h s sz v p.2 := by
  simp only [evP]
  rcases val s x with _ | v
  · rfl
  · rcases val s i with _ | i
    · cases v <;> first | rfl | (rename_i g; cases g <;> rfl)
    · cases i with
      | g gi => cases gi with
        | int k n => cases v with
          | g gv => cases gv with
            | sl n els =>
              simp only [ob, asI, iaddrV]
              split
              · split <;> (rename_i hq; rw [hq])
              · rfl
            | _ => rfl
          | _ => rfl
        | _ => cases v <;> first | rfl | (rename_i g; cases g <;> rfl)
      | _ => cases v <;> first | rfl | (rename_i g; cases g <;> rfl)
theorem armP_iaddrA (len sz : Nat) (x i : Opd) : evP h s (.iaddrA len sz x i) = ob (val s x) fun v => ob (val s i) fun i => ob (asI i) fun p => iaddrAV len sz v p.2 := by
  simp only [evP]
  rcases val s x with _ | v
  · rfl
  · rcases val s i with _ | i
    · cases v <;> rfl
    · cases i with
      | g gi => cases gi with
        | int k n => cases v <;> rfl
        | _ => cases v <;> rfl
      | _ => cases v <;> rfl
theorem armP_index (x i : Opd) : evP h s (.index x i) = ob (val s x) fun v => ob (asS v) fun b => ob (val s i) fun i => ob (asI i) fun p => if 0 ≤ p.2 then ob (b[p.2.toNat]?) fun c => some (.g (.int .u8 c.toNat), []) else none := by
  simp only [evP]
  rcases val s x with _ | v
  · rfl
  · rcases val s i with _ | i
    · cases v <;> first | rfl | (rename_i g; cases g <;> rfl)
    · cases i with
      | g gi => cases gi with
        | int k n => cases v with
          | g gv => cases gv with
            | str b =>
              simp only [ob, asI, asS]
              split
              · split <;> (rename_i hq; rw [hq])
              · rfl
            | _ => rfl
          | _ => rfl
        | _ => cases v <;> first | rfl | (rename_i g; cases g <;> rfl)
      | _ => cases v <;> first | rfl | (rename_i g; cases g <;> rfl)
theorem armP_indexA (agg : Bool) (len sz : Nat) (x i : Opd) : evP h s (.indexA agg len sz x i) = ob (val s x) fun v => ob (asAgg v) fun cs => ob (val s i) fun i => ob (asI i) fun p => if 0 ≤ p.2 ∧ p.2 < len then ob (sub agg sz ((cs.drop (p.2.toNat * sz)).take sz)) fun v => some (v, []) else none := by
  simp only [evP]
  rcases val s x with _ | v
  · rfl
  · rcases val s i with _ | i
    · cases v <;> rfl
    · cases i with
      | g gi => cases gi with
        | int k n => cases v with
          | agg cs =>
              simp only [ob, asI, asAgg]
              split
              · cases sub agg sz ((cs.drop (n.toNat * sz)).take sz) <;> rfl
              · rfl
          | _ => rfl
        | _ => cases v <;> rfl
      | _ => cases v <;> rfl
theorem armP_load (agg : Bool) (n : Nat) (x : Opd) : evP h s (.load agg n x) = ob (val s x) fun v => loadV h s agg n v := by
  simp only [evP]
  rcases val s x with _ | v
  · rfl
  · cases v with
    | ptr id o =>
      simp only [ob, loadV]
      rcases getB h s id with _ | b
      · rfl
      · cases b with
        | cells cs => simp only [asCells]; cases sub agg n ((cs.drop o).take n) <;> rfl
        | bld T cs => simp only [asCells]; cases sub agg n ((cs.drop o).take n) <;> rfl
        | _ => rfl
    | cp cs => simp only [ob, loadV]; cases sub agg n ((cs.take n).map .g) <;> rfl
    | rp id g sz i o =>
      simp only [ob, loadV]
      rcases getB h s id with _ | b
      · rfl
      · cases b with
        | rows sz2 g2 els =>
          simp only [asRows]
          split
          · rcases els[i]? with _ | el
            · rfl
            · simp only; cases sub agg n (((el.drop o).take n).map .g) <;> rfl
          · rfl
        | _ => rfl
    | _ => rfl
theorem armP_ext (j : Nat) (x : Opd) : evP h s (.ext j x) = ob (val s x) fun v => ob (asTup v) fun vs => ob (vs[j]?) fun v => some (v, []) := by
  simp only [evP]
  rcases val s x with _ | v
  · rfl
  · cases v with
    | tup vs => simp only [ob, asTup]; cases vs[j]? <;> rfl
    | _ => rfl
theorem armP_len (x : Opd) : evP h s (.len x) = ob (val s x) fun v => ob (lenV h s v) fun n => some (.g (.int .i64 n), []) := by
  simp only [evP]
  rcases val s x with _ | v
  · rfl
  · simp only [ob]; cases lenV h s v <;> rfl
theorem armP_lenS (x : Opd) : evP h s (.lenS x) = ob (val s x) fun v => ob (asS v) fun b => some (.g (.int .i64 b.length), []) := by
  simp only [evP]
  rcases val s x with _ | v
  · rfl
  · cases v <;> first | rfl | (rename_i g; cases g <;> rfl)
theorem armP_cap (x : Opd) : evP h s (.cap x) = ob (val s x) fun v => capV v := by
  simp only [evP]
  rcases val s x with _ | v
  · rfl
  · cases v <;> first | rfl | (rename_i g; cases g <;> rfl)
theorem armP_mx (x : Opd) (xs : List Opd) : evP h s (.mx x xs) = ob (vals s xs) fun vs => ob (foldV mx2 (val s x) vs) fun v => some (v, []) := by
  simp only [evP]
  rcases vals s xs with _ | v
  · rfl
  · simp only [ob]; cases foldV mx2 (val s x) v <;> rfl
theorem armP_mn (x : Opd) (xs : List Opd) : evP h s (.mn x xs) = ob (vals s xs) fun vs => ob (foldV mn2 (val s x) vs) fun v => some (v, []) := by
  simp only [evP]
  rcases vals s xs with _ | v
  · rfl
  · simp only [ob]; cases foldV mn2 (val s x) v <;> rfl
theorem armP_build (z : List AV) (ps : List (Nat × Nat × Opd)) : evP h s (.build z ps) = ob (fills s z ps) fun cs => some (.agg cs, []) := by
  simp only [evP]; cases fills s z ps <;> rfl
theorem armP_slc (sz : Nat) (x : Opd) (lo hi : Option Opd) : evP h s (.slc sz x lo hi) = ob (val s x) fun v => slcV h s sz lo hi v := by
  simp only [evP]
  rcases val s x with _ | v
  · rfl
  · cases v with
    | g gv => cases gv with
      | sl n els =>
        simp only [ob, slcV]
        split
        · rcases cutB s els.length lo hi with _ | ⟨a, b⟩ <;> rfl
        · rfl
      | nsl => simp only [ob, slcV]; cases cutB s 0 lo hi <;> rfl
      | _ => rfl
    | ms id g sz2 off len =>
      simp only [ob, slcV]
      split
      · rcases cutB s len lo hi with _ | ⟨a, b⟩ <;> rfl
      · rfl
    | _ => rfl
theorem armP_slc3 (sz : Nat) (x lo hi mx : Opd) : evP h s (.slc3 sz x (some lo) (some hi) (some mx)) = ob (val s x) fun v => ob (val s mx) fun m => slc3V h s sz lo hi v m := by
  simp only [evP]
  rcases val s x with _ | v
  · rfl
  · rcases val s mx with _ | m <;> rfl
theorem armP_slcS (x : Opd) (lo hi : Option Opd) : evP h s (.slcS x lo hi) = ob (val s x) fun v => ob (asS v) fun b => ob (cutB s b.length lo hi) fun p => some (.g (.str ((b.take p.2).drop p.1)), []) := by
  simp only [evP]
  rcases val s x with _ | v
  · rfl
  · cases v with
    | g gv => cases gv with
      | str b =>
        simp only [ob, asS]
        rcases cutB s b.length lo hi with _ | ⟨a, b⟩ <;> rfl
      | _ => rfl
    | _ => rfl
theorem armP_mkif (t : TypeId) (x : Opd) : evP h s (.mkif t x) = ob (val s x) fun v => mkifV t v := by
  simp only [evP]
  rcases val s x with _ | v
  · rfl
  · cases v <;> rfl
theorem armP_mkfn0 (f : FuncId) : evP h s (.mkfn f []) = some (.g (.fn f), []) := by simp only [evP]
theorem armP_mkfn (f : FuncId) (x : Opd) (xs : List Opd) : evP h s (.mkfn f (x :: xs)) = ob (vals s (x :: xs)) fun vs => some (.fv f vs, []) := by
  simp only [evP]; cases vals s (x :: xs) <;> rfl
theorem armP_mkbv (f : FuncId) (xs : List Opd) : evP h s (.mkbv f xs) = ob (vals s xs) fun vs => some (.bv f vs, []) := by
  simp only [evP]; cases vals s xs <;> rfl
theorem armP_mkvia (t : TypeId) (path : List FieldStep) (f : FuncId) (p : Bool) : evP h s (.mkvia t path f p) = some (.via t path f p, []) := by simp only [evP]
theorem armP_nilchk (x : Opd) : evP h s (.nilchk x) = ob (val s x) fun v => nilchkV v := by
  simp only [evP]
  rcases val s x with _ | v
  · rfl
  · cases v <;> first | rfl | (rename_i g; cases g <;> rfl)

def globV (g : Nat) : Blk → Option (AV × List Nat)
  | .gsen t b => some (.g (.sen g t b), [])
  | _ => none
@[simp] theorem globV_gsen (g : Nat) (t : TypeId) (b : List UInt8) : globV g (.gsen t b) = some (.g (.sen g t b), []) := rfl
theorem armP_glob (g : Nat) : evP h s (.glob g) = ob (getB h s g) fun b => globV g b := by
  simp only [evP]
  rcases getB h s g with _ | b
  · rfl
  · cases b <;> rfl

theorem val_t (n : Nat) : val s (.t n) = look s.t n := by simp only [val]
theorem val_c (v : AV) : val s (.c v) = some v := by simp only [val]
theorem vals_nil : vals s [] = some [] := by simp only [vals]
theorem vals_cons (x : Opd) (xs : List Opd) : vals s (x :: xs) = ob (val s x) fun v => ob (vals s xs) fun vs => some (v :: vs) := by
  simp only [vals]; cases val s x <;> cases vals s xs <;> rfl
end
attribute [simp] armP_slc3 armP_mov armP_pick armP_bin armP_eqs armP_isnil armP_isnilS armP_not armP_neg armP_conv armP_convId armP_field armP_faddr armP_iaddr armP_iaddrA armP_index armP_indexA armP_load armP_glob armP_ext armP_len armP_lenS armP_cap armP_mx armP_mn armP_build armP_slc armP_slcS armP_mkif armP_mkfn0 armP_mkfn armP_mkbv armP_mkvia armP_nilchk
attribute [simp] val_t val_c vals_nil vals_cons

/-! ### Arms that act -/
def appTB (e : TypeId) (h : List Blk) (s : St) (b : List UInt8) : AV → Option (AV × St × List Nat)
  | .ms id g sz off len => if isTrow h s id = true then (if sz = 1 then appTV e h s 1 1 id g off len (bytesG b) else none) else appV h s 1 1 (.ms id g sz off len) (bytesG b)
  | x => appV h s 1 1 x (bytesG b)
def toUV (h : List Blk) (s : St) : AV → Option (AV × St × List Nat)
  | .ptr id o => ob (asBld (getB h s id)) fun p => if o < p.2.length then some (.ptr id o, s, []) else none
  | _ => none
def fromUV (ts : List (TypeId × Nat)) (h : List Blk) (s : St) : AV → Option (AV × St × List Nat)
  | .ptr id o => ob (asBld (getB h s id)) fun p => if o = 0 ∧ ts.contains (p.1, p.2.length) = true then some (.ptr id o, s, []) else none
  | _ => none
def sdataV (h : List Blk) (s : St) : AV → Option (AV × St × List Nat)
  | .ms id g sz off len => if cur h s id g = true then (if g = 1 then some (.g .nptr, s, []) else if 0 < len then some (.rp id g sz off 0, s, []) else none) else none
  | _ => none
def asMap : Option Blk → Option (List (GV × Option GV))
  | some (.map es) => some es
  | _ => none
def mgetA (cm : Bool) (kk : LK) (z : Option GV) (h : List Blk) (s : St) : AV → AV → Option (AV × St × List Nat)
  | .mp id, .g kv => ob (asMap (getB h s id)) fun es => ob (mgetV cm kk z kv es) fun r => some (r, s, [])
  | _, _ => none
def msetA (kk : LK) (h : List Blk) (s : St) : AV → AV → AV → Option (AV × St × List Nat)
  | .mp id, .g kv, v => ob (asMap (getB h s id)) fun es => ob (mvG v) fun g => ob (msetV kk kv g es) fun es' => some (.undef, setB h s id (.map es'), [id])
  | _, _, _ => none
attribute [simp] asMap mgetA msetA mvG mvV
def asMap2 : Option Blk → Option (List (List GV × Option GV))
  | some (.map2 es) => some es
  | _ => none
def mget2A (cm : Bool) (ks : List LK) (z : Option GV) (h : List Blk) (s : St) : AV → AV → Option (AV × St × List Nat)
  | .mp id, .agg cs => ob (grounds cs) fun kv => ob (asMap2 (getB h s id)) fun es => ob (mgetV2 cm ks z kv es) fun r => some (r, s, [])
  | _, _ => none
def mset2A (ks : List LK) (h : List Blk) (s : St) : AV → AV → AV → Option (AV × St × List Nat)
  | .mp id, .agg cs, v => ob (grounds cs) fun kv => ob (asMap2 (getB h s id)) fun es => ob (mvG v) fun g => ob (msetV2 ks kv g es) fun es' => some (.undef, setB h s id (.map2 es'), [id])
  | _, _, _ => none
attribute [simp] asMap2 mget2A mset2A
def neqpV (s : St) : AV → AV → Option (AV × St × List Nat)
  | .ptr id o, .ptr id' o' => if id = id' ∧ o = o' then some (.g (.bool false), s, []) else none
  | _, _ => none
def ustrV (e : TypeId) (h : List Blk) (s : St) : AV → AV → Option (AV × St × List Nat)
  | .g .nptr, .g (.int .i64 n) => if n = 0 then some (.g (.str []), s, []) else none
  | .rp id g _ i o, .g (.int .i64 n) => ob (asTrow (getB h s id)) fun r => if g = r.2.2.1 ∧ r.2.1 = 1 ∧ i = 0 ∧ o = 0 ∧ 0 < n ∧ n ≤ r.2.2.2.length ∧ n ≤ 9223372036854775807 ∧ r.1 = e then
      ob (evI.bytesOfG (r.2.2.2.take n.toNat)) fun b => some (.g (.str b), setB h s id (.fro 1 g r.2.2.2), [id]) else none
  | _, _ => none
attribute [simp] appTB toUV fromUV sdataV neqpV ustrV isTrow
section
variable (h : List Blk) (nb : Nat) (s : St)
theorem armI_nres (sz : Nat) : evI h nb s (.nres sz) = some (.ms (s.next h) 1 sz 0 0, s.push (.rows sz 1 []), []) := by simp only [evI]
theorem armI_mk0 (sz : Nat) : evI h nb s (.mk0 sz) = some (.ms (s.next h) 2 sz 0 0, s.push (.rows sz 2 []), []) := by simp only [evI]
theorem armI_alloc (z : List Z) : evI h nb s (.alloc z) = some (.ptr (s.next h + (zres (s.next h) z).2.length) 0, { s with o := s.o ++ (zres (s.next h) z).2 ++ [.cells (zres (s.next h) z).1] }, []) := by simp only [evI]
theorem armI_allocT (T e : TypeId) (z : List Z) : evI h nb s (.allocT T e z) = some (.ptr (s.next h + (zresT e (s.next h) z).2.length) 0, { s with o := s.o ++ (zresT e (s.next h) z).2 ++ [.bld T (zresT e (s.next h) z).1] }, []) := by simp only [evI]
theorem armI_appT (e : TypeId) (x y : Opd) : evI h nb s (.appT e x y) = ob (val s x) fun x => ob (val s y) fun y => ob (asS y) fun b => appTB e h s b x := by
  simp only [evI]
  rcases val s x with _ | x
  · rfl
  · rcases val s y with _ | y
    · rfl
    · cases y <;> first | rfl | (rename_i g; cases g <;> first | rfl | (cases x <;> rfl))
theorem armI_toU (x : Opd) : evI h nb s (.toU x) = ob (val s x) fun v => toUV h s v := by
  simp only [evI]
  rcases val s x with _ | x
  · rfl
  · cases x with
    | ptr id o =>
      simp only [ob, toUV]
      rcases getB h s id with _ | b
      · rfl
      · cases b <;> rfl
    | _ => rfl
theorem armI_fromU (ts : List (TypeId × Nat)) (x : Opd) : evI h nb s (.fromU ts x) = ob (val s x) fun v => fromUV ts h s v := by
  simp only [evI]
  rcases val s x with _ | x
  · rfl
  · cases x with
    | ptr id o =>
      simp only [ob, fromUV]
      rcases getB h s id with _ | b
      · rfl
      · cases b <;> rfl
    | _ => rfl
theorem armI_sdata (x : Opd) : evI h nb s (.sdata x) = ob (val s x) fun v => sdataV h s v := by
  simp only [evI]
  rcases val s x with _ | x
  · rfl
  · cases x <;> rfl
theorem armI_mkmap : evI h nb s .mkmap = some (.mp (s.next h), s.push (.map []), []) := by simp only [evI]
theorem armI_mget (cm : Bool) (kk : LK) (z : Option GV) (x k : Opd) : evI h nb s (.mget cm kk z x k) = ob (val s x) fun a => ob (val s k) fun b => mgetA cm kk z h s a b := by
  simp only [evI]
  rcases val s x with _ | x
  · rfl
  · rcases val s k with _ | k
    · cases x <;> rfl
    · cases x <;> try rfl
      rename_i id
      cases k <;> try rfl
      rename_i kv
      simp only [ob, mgetA]
      rcases getB h s id with _ | b
      · rfl
      · cases b <;> try rfl
        rename_i es
        simp only [asMap]
        rcases mgetV cm kk z kv es with _ | r <;> rfl
theorem armI_mset (kk : LK) (x k v : Opd) : evI h nb s (.mset kk x k v) = ob (val s x) fun a => ob (val s k) fun b => ob (val s v) fun c => msetA kk h s a b c := by
  simp only [evI]
  rcases val s x with _ | x
  · rfl
  · rcases val s k with _ | k
    · cases x <;> rfl
    · rcases val s v with _ | v
      · cases x <;> try rfl
        cases k <;> rfl
      · cases x <;> try rfl
        rename_i id
        cases k <;> try rfl
        rename_i kv
        simp only [ob, msetA]
        rcases getB h s id with _ | b
        · rfl
        · cases b <;> try rfl
          rename_i es
          simp only [asMap]
          rcases mvG v with _ | g
          · rfl
          · simp only
            rcases msetV kk kv g es with _ | es' <;> rfl
theorem armI_mkmap2 : evI h nb s .mkmap2 = some (.mp (s.next h), s.push (.map2 []), []) := by simp only [evI]
theorem armI_mget2 (cm : Bool) (ks : List LK) (z : Option GV) (x k : Opd) : evI h nb s (.mget2 cm ks z x k) = ob (val s x) fun a => ob (val s k) fun b => mget2A cm ks z h s a b := by
  simp only [evI]
  rcases val s x with _ | x
  · rfl
  · rcases val s k with _ | k
    · cases x <;> rfl
    · cases x <;> try rfl
      rename_i id
      cases k <;> try rfl
      rename_i cs
      simp only [ob, mget2A, Option.bind_some, aggG]
      rcases grounds cs with _ | kv
      · rfl
      · simp only
        rcases getB h s id with _ | b
        · rfl
        · cases b <;> try rfl
          rename_i es
          simp only [asMap2]
          rcases mgetV2 cm ks z kv es with _ | r <;> rfl
theorem armI_mset2 (ks : List LK) (x k v : Opd) : evI h nb s (.mset2 ks x k v) = ob (val s x) fun a => ob (val s k) fun b => ob (val s v) fun c => mset2A ks h s a b c := by
  simp only [evI]
  rcases val s x with _ | x
  · rfl
  · rcases val s k with _ | k
    · cases x <;> rfl
    · rcases val s v with _ | v
      · cases x <;> try rfl
        cases k <;> try rfl
        rename_i id cs
        simp only [ob, Option.bind_some, aggG]
        cases grounds cs <;> rfl
      · cases x <;> try rfl
        rename_i id
        cases k <;> try rfl
        rename_i cs
        simp only [ob, mset2A, Option.bind_some, aggG]
        rcases grounds cs with _ | kv
        · rfl
        · simp only
          rcases getB h s id with _ | b
          · rfl
          · cases b <;> try rfl
            rename_i es
            simp only [asMap2]
            rcases mvG v with _ | g
            · rfl
            · simp only
              rcases msetV2 ks kv g es with _ | es' <;> rfl
theorem armI_neqp (x y : Opd) : evI h nb s (.neqp x y) = ob (val s x) fun a => ob (val s y) fun b => neqpV s a b := by
  simp only [evI]
  rcases val s x with _ | x
  · rfl
  · rcases val s y with _ | y
    · cases x <;> rfl
    · cases x <;> cases y <;> rfl
theorem armI_ustr (e : TypeId) (x y : Opd) : evI h nb s (.ustr e x y) = ob (val s x) fun a => ob (val s y) fun b => ustrV e h s a b := by
  simp only [evI]
  rcases val s x with _ | x
  · rfl
  · rcases val s y with _ | y
    · cases x <;> first | rfl | (rename_i g; cases g <;> rfl)
    · cases x with
      | g v =>
        cases v with
        | nptr => cases y <;> first | rfl | (rename_i g; cases g <;> first | rfl | (rename_i k n; cases k <;> rfl))
        | _ => rfl
      | rp id g sz i o =>
        cases y with
        | g v =>
          cases v with
          | int k n =>
            cases k with
            | i64 =>
              simp only [ob, ustrV]
              rcases getB h s id with _ | b
              · rfl
              · cases b with
                | trow T sz2 g' els =>
                  simp only [asTrow]
                  split
                  · cases evI.bytesOfG (els.take n.toNat) <;> rfl
                  · rfl
                | _ => rfl
            | _ => rfl
          | _ => rfl
        | _ => rfl
      | _ => rfl
theorem armI_allocAt (k : Nat) (z : List Z) : evI h nb s (.allocAt k z) = match getB h s (nb + k) with
    | some .pend => if h.length ≤ nb then some (.ptr (nb + k) 0, setB h s (nb + k) (.cells (zplain z)), [nb + k]) else none
    | _ => none := by simp only [evI]; rfl
theorem armI_box (x : Opd) : evI h nb s (.box x) = ob (val s x) fun v => ob v.cellsO fun cs => some (.ptr (s.next h) 0, s.push (.cells cs), []) := by
  simp only [evI]
  rcases val s x with _ | v
  · rfl
  · simp only [ob]; cases v.cellsO <;> rfl
theorem armI_bslice (sz len : Nat) (z : List GV) (ps : List (Nat × Nat × Opd)) : evI h nb s (.bslice sz len z ps) = ob (fills s (List.replicate len (z.map AV.g)).flatten ps) fun cs => ob (orG (grounds cs) (grounds (cs.map (nilG h s)))) fun gs => some (.g (.sl sz (chunk sz len gs)), s, []) := by
  simp only [evI]
  rcases fills s (List.replicate len (z.map AV.g)).flatten ps with _ | v
  · rfl
  · simp only [ob]; cases orG (grounds v) (grounds (v.map (nilG h s))) <;> rfl
@[simp ↓] theorem orG_some (a : List GV) (y : Option (List GV)) : orG (some a) y = some a := rfl
@[simp] theorem orG_none (y : Option (List GV)) : orG none y = y := rfl
@[simp] theorem nilG_g (v : GV) : nilG h s (.g v) = .g v := rfl
@[simp] theorem nilG_ms (id g sz off len : Nat) : nilG h s (.ms id g sz off len) = if g = 1 ∧ cur h s id g = true then .g .nsl else .ms id g sz off len := rfl
theorem armI_store (n : Nat) (p x : Opd) : evI h nb s (.store n p x) = ob (val s p) fun p => ob (val s x) fun v => ob v.cellsO fun vs => if vs.length = n then ob (storeV h s p vs) fun r => some (.undef, r.1, r.2) else none := by
  simp only [evI]
  rcases val s p with _ | p
  · rfl
  · rcases val s x with _ | v
    · rfl
    · simp only [ob]
      rcases v.cellsO with _ | vs
      · rfl
      · simp only
        split
        · cases storeV h s p vs <;> rfl
        · rfl
theorem armI_mk (sz bytes : Nat) (z : List GV) (l c : Opd) : evI h nb s (.mk sz bytes z l c) = match val s l, val s c with
    | some (.g (.int .i64 n)), some (.g (.int .i64 m)) => if n = m ∧ 0 ≤ n ∧ n ≤ 281474976710656 ∧ n * bytes ≤ 281474976710656 then
        some (.ms (s.next h) 2 sz 0 n.toNat, s.push (.rows sz 2 (List.replicate n.toNat z)), []) else none
    | _, _ => none := by simp only [evI]; rfl
theorem armI_app (sz bytes : Nat) (x y : Opd) : evI h nb s (.app sz bytes x y) = ob (val s x) fun x => ob (val s y) fun y => ob (viewN h s sz y) fun ys => appV h s sz bytes x ys := by
  simp only [evI]
  rcases val s x with _ | x
  · rfl
  · rcases val s y with _ | y
    · rfl
    · simp only [ob]; cases viewN h s sz y <;> rfl
theorem armI_appS (x y : Opd) : evI h nb s (.appS x y) = ob (val s x) fun x => ob (val s y) fun y => ob (asS y) fun b => appV h s 1 1 x (bytesG b) := by
  simp only [evI]
  rcases val s x with _ | x
  · rfl
  · rcases val s y with _ | y
    · rfl
    · cases y <;> first | rfl | (rename_i g; cases g <;> rfl)
theorem armI_appZ (sz bytes : Nat) (z : List GV) (x n : Opd) : evI h nb s (.appZ sz bytes z x n) = match val s x, val s n with
    | some x, some (.g (.int .i64 n)) => if 0 ≤ n ∧ n ≤ 281474976710656 ∧ n * bytes ≤ 281474976710656 then appV h s sz bytes x (List.replicate n.toNat z) else none
    | _, _ => none := by simp only [evI]; rfl
theorem armI_clear (z : List GV) (x : Opd) : evI h nb s (.clear z x) = match val s x with
    | some (.g .nsl) => some (.tup [], s, [])
    | some (.ms id g sz off len) => match getB h s id with
      | some (.rows sz' g' els) => if g = g' ∧ sz = sz' ∧ sz = z.length ∧ off + len ≤ els.length then
          some (.tup [], setB h s id (.rows sz g (els.take off ++ (List.replicate len z ++ els.drop (off + len)))), [id]) else none
      | _ => none
    | _ => none := by simp only [evI]; rfl
theorem armI_convSB (x : Opd) : evI h nb s (.convSB x) = ob (val s x) fun v => ob (asS v) fun b => some (.g (.sl 1 (bytesG b)), s, []) := by
  simp only [evI]
  rcases val s x with _ | v
  · rfl
  · cases v <;> first | rfl | (rename_i g; cases g <;> rfl)
theorem armI_convBS (x : Opd) : evI h nb s (.convBS x) = ob (val s x) fun v => ob (viewN h s 1 v) fun els => ob (evI.bytesOfG els) fun b => some (.g (.str b), s, []) := by
  simp only [evI]
  rcases val s x with _ | v
  · rfl
  · simp only [ob]
    rcases viewN h s 1 v with _ | els
    · rfl
    · simp only; cases evI.bytesOfG els <;> rfl
end
attribute [simp] armI_allocT armI_appT armI_toU armI_fromU armI_sdata armI_neqp armI_mkmap2 armI_mget2 armI_mset2 armI_mkmap armI_mget armI_mset armI_ustr armI_nres armI_mk0 armI_alloc armI_allocAt armI_box armI_bslice armI_store armI_mk armI_app armI_appS armI_appZ armI_clear armI_convSB armI_convBS evI.bytesOfG
end Go.AM
end
section
set_option linter.unusedSimpArgs false
set_option linter.unusedVariables false
namespace Go.AM
open Go

@[simp ↓] theorem omap_ite {α β : Type} (c : Prop) [Decidable c] (x y : Option α) (f : α → β) : Option.map f (if c then x else y) = if c then Option.map f x else Option.map f y := by split <;> rfl

/-- A loop by its body. -/
noncomputable def loopE (E : FnS) (h : List Blk) (c : IC) (lv : List Nat) (s : St) : Out := loopL (fun s => evCode E h c s) lv s

theorem loopE_eq (E : FnS) (h : List Blk) (c : IC) (lv : List Nat) (s : St) : loopE E h c lv s = sk (evCode E h c s) fun s' => loopE E h c lv (s'.kp lv) := loopL_eq _ lv s

theorem loopE_step {c c' : IC} (hc : c = c') (E : FnS) (h : List Blk) (lv : List Nat) (s : St) : loopE E h c lv s = sk (evCode E h c' s) fun s' => loopE E h c lv (s'.kp lv) := by
  rw [← hc]; exact loopE_eq E h c lv s

section
variable (E : FnS) (h : List Blk) (s : St)
@[simp] theorem evCode_skip : evCode E h .skip s = some (.normal, s) := by simp only [evCode]
@[simp] theorem evCode_exit (id : Nat) : evCode E h (.exit id) s = some (.exit id, s) := by simp only [evCode]
@[simp] theorem evCode_ret : evCode E h .ret s = some (.ret, s) := by simp only [evCode]
@[simp] theorem evCode_reg (lv : List Nat) (ops : List AOper) : evCode E h (.reg lv ops) s = ob (evOps E h ops s) fun s => some (.normal, s.kp lv) := by
  simp only [evCode]; cases evOps E h ops s <;> rfl
@[simp] theorem evCode_drw (lv : List Nat) (nb : Nat) (t : Tree) : evCode E h (.drw lv nb t) s = ob (evLead E h (h.length + s.o.length) lv [] t (pends s nb)) fun s => some (.normal, s) := by
  simp only [evCode]; cases evLead E h (h.length + s.o.length) lv [] t (pends s nb) <;> rfl
@[simp] theorem evCode_seq (a b : IC) : evCode E h (.seq a b) s = sk (evCode E h a s) fun s => evCode E h b s := by simp only [evCode]
@[simp] theorem evCode_cond (lv : List Nat) (c : Opd) (a b : IC) : evCode E h (.cond lv c a b) s = ob (val s c) fun v => ob (asB v) fun x => kpN lv (if x = true then evCode E h a s else evCode E h b s) := by
  simp only [evCode]
  rcases val s c with _ | v
  · rfl
  · cases v <;> first | rfl | (rename_i g; cases g <;> rfl)
@[simp] theorem evCode_block (lv : List Nat) (id : Nat) (c : IC) : evCode E h (.block lv id c) s = bk lv id (evCode E h c s) := by simp only [evCode]
@[simp] theorem evCode_loop (lv l2 : List Nat) (c : IC) : evCode E h (.loop lv l2 c) s = loopE E h c lv (s.kp lv) := by simp only [evCode, loopE]
end

/-! ### Rounds -/
def asLp : Option Blk → Option (RD × List (Nat × AV))
  | some (.lp rd t none) => some (rd, t)
  | _ => none
@[simp] theorem asLp_g (rd : RD) (t : List (Nat × AV)) : asLp (some (.lp rd t none)) = some (rd, t) := by simp only [asLp]
def yieldV (E : FnS) (h : List Blk) (s : St) (vs : List AV) : AV → Option (AV × St)
  | .yv id => ob (asLp (getB h s id)) fun p => ob (fin h [] s (E 0 (.yk p.1.key :: (vs ++ [.yv id])) (full h s))) fun q => some (q.1, q.2.1)
  | _ => none
@[simp] theorem yieldV_yv (E : FnS) (h : List Blk) (s : St) (vs : List AV) (id : Nat) : yieldV E h s vs (.yv id) = ob (asLp (getB h s id)) fun p => ob (fin h [] s (E 0 (.yk p.1.key :: (vs ++ [.yv id])) (full h s))) fun q => some (q.1, q.2.1) := by simp only [yieldV]
def rfV (E : FnS) (h : List Blk) (lv : List Nat) (rd : RD) (lt : List Nat) (s : St) : AV → Out
  | .fv f (c :: caps) => match fin h [] (s.push (.lp rd (keep s.t lt) none)) (E f (.yv (s.next h) :: c :: caps) (full h (s.push (.lp rd (keep s.t lt) none)))) with
    | some (_, s', _) => endRf h (s.next h) lv s'
    | none => none
  | _ => none
theorem rfV_fv (E : FnS) (h : List Blk) (lv : List Nat) (rd : RD) (lt : List Nat) (s : St) (f : FuncId) (c : AV) (caps : List AV) : rfV E h lv rd lt s (.fv f (c :: caps)) =
    ob (fin h [] (s.push (.lp rd (keep s.t lt) none)) (E f (.yv (s.next h) :: c :: caps) (full h (s.push (.lp rd (keep s.t lt) none))))) fun p => endRf h (s.next h) lv p.2.1 := by
  simp only [rfV]
  rcases fin h [] (s.push (.lp rd (keep s.t lt) none)) (E f (.yv (s.next h) :: c :: caps) (full h (s.push (.lp rd (keep s.t lt) none)))) with _ | ⟨a, b, c⟩ <;> rfl
section
variable (E : FnS) (h : List Blk) (s : St)
@[simp] theorem evCode_regy (lv : List Nat) (ops : List AOper) : evCode E h (.regy lv ops) s = ob (evOpsY E h ops s) fun s => some (.normal, s.kp lv) := by
  simp only [evCode]; cases evOpsY E h ops s <;> rfl
@[simp] theorem evCode_rfun (lv : List Nat) (rd : RD) (lt : List Nat) (f : Opd) : evCode E h (.rfun lv rd lt f) s = ob (val s f) fun v => rfV E h lv rd lt s v := by
  simp only [evCode, evRf]
  rcases val s f with _ | v
  · rfl
  · cases v <;> try rfl
    rename_i g caps
    cases caps <;> rfl
@[simp] theorem evOpsY_nil : evOpsY E h [] s = some s := by simp only [evOpsY]
@[simp] theorem evOpsY_cons (o : AOper) (r : List AOper) : evOpsY E h (o :: r) s = ob (evOneY E h s o) fun s => evOpsY E h r s := by simp only [evOpsY]
@[simp] theorem evOneY_y (d : Option Nat) (f : Opd) (xs : List Opd) : evOneY E h s ⟨d, none, .ycall f xs⟩ = ob (val s f) fun v => ob (vals s xs) fun vs => ob (yieldV E h s vs v) fun p => some (p.2.put d p.1) := by
  simp only [evOneY, evYield]
  rcases val s f with _ | v
  · rfl
  · rcases vals s xs with _ | vs
    · cases v <;> rfl
    · cases v <;> try rfl
      rename_i id
      simp only [ob, yieldV]
      rcases getB h s id with _ | b
      · rfl
      · cases b <;> try rfl
        rename_i rd t j
        cases j <;> try rfl
        simp only [asLp]
        generalize fin h [] s (E 0 (AV.yk rd.key :: (vs ++ [AV.yv id])) (full h s)) = q
        rcases q with _ | ⟨a, b, c⟩ <;> rfl
theorem evOneY_n (o : AOper) (hy : isYc o.op = false) : evOneY E h s o = ob (evOne E h 0 [] s o) fun p => some p.1 := by
  obtain ⟨d, gd, op⟩ := o
  cases op <;> first | rfl | (simp [isYc] at hy)
end
attribute [simp] evOneY_n isYc

attribute [simp ↓] sk_normal sk_exit sk_ret sk_none sk_ite kpN_normal kpN_exit kpN_ret kpN_ite bk_normal bk_exit bk_ret bk_ite

/-- Where a guard says so. -/
def gdA {α : Type} (s : St) (g : Nat) (b : Bool) (yes no : St → Option α) : AV → Option α
  | .g (.bool x) => if x = b then yes (s.put (some g) (.g (.bool b))) else no (s.put (some g) (.g (.bool (!b))))
  | .undef => no s
  | _ => none
@[simp ↓] theorem gdA_bool {α : Type} (s : St) (g : Nat) (b : Bool) (yes no : St → Option α) (x : Bool) : gdA s g b yes no (.g (.bool x)) = if x = b then yes (s.put (some g) (.g (.bool b))) else no (s.put (some g) (.g (.bool (!b)))) := rfl
@[simp ↓] theorem gdA_undef {α : Type} (s : St) (g : Nat) (b : Bool) (yes no : St → Option α) : gdA s g b yes no .undef = no s := rfl
theorem gdo_some {α : Type} (s : St) (g : Nat) (b : Bool) (yes no : St → Option α) : gdo s (some (g, b)) yes no = ob (look s.t g) fun v => gdA s g b yes no v := by
  unfold gdo
  simp only
  rcases look s.t g with _ | v
  · rfl
  · cases v <;> first | rfl | (rename_i g; cases g <;> rfl)

section
variable (E : FnS) (h : List Blk) (nb : Nat) (hd : List Nat) (s : St)
theorem evOps_nil : evOps E h [] s = some s := by simp only [evOps]
theorem evOps_cons (o : AOper) (r : List AOper) : evOps E h (o :: r) s = ob (evOne E h 0 [] s o) fun p => evOps E h r p.1 := by simp only [evOps]
theorem evOne_none (d : Option Nat) (op : AOp) : evOne E h nb hd s ⟨d, none, op⟩ = ob (exOp E h nb hd s op) fun p => some (p.2.1.put d p.1, p.2.2) := by simp only [evOne, gdo]
theorem evOne_some (d : Option Nat) (g : Nat) (b : Bool) (op : AOp) : evOne E h nb hd s ⟨d, some (g, b), op⟩ =
    ob (look s.t g) fun v => gdA s g b (fun s => ob (exOp E h nb hd s op) fun p => some (p.2.1.put d p.1, p.2.2)) (fun s => some (s.put d .undef, [])) v := by simp only [evOne, gdo_some]
theorem evTake_none (d : Option Nat) (op : AOp) : evTake h s ⟨d, none, op⟩ = ob (evP h s op) fun p => some (s.put d p.1, p.2) := by simp only [evTake, gdo]
theorem evTake_some (d : Option Nat) (g : Nat) (b : Bool) (op : AOp) : evTake h s ⟨d, some (g, b), op⟩ =
    ob (look s.t g) fun v => gdA s g b (fun s => ob (evP h s op) fun p => some (s.put d p.1, p.2)) (fun s => some (s.put d .undef, [])) v := by simp only [evTake, gdo_some]
end
attribute [simp] evOps_nil evOps_cons evOne_none evOne_some evTake_none evTake_some

theorem put_some (s : St) (d : Nat) (v : AV) : s.put (some d) v = ⟨(d, v) :: s.t, s.m, s.o⟩ := rfl
theorem put_none (s : St) (v : AV) : s.put none v = s := rfl
theorem kp_mk (t : List (Nat × AV)) (m : List (Nat × Blk)) (o : List Blk) (lv : List Nat) : St.kp ⟨t, m, o⟩ lv = ⟨keep t lv, m, o⟩ := rfl
def consO : Option AV → Nat → List (Nat × AV) → List (Nat × AV)
  | some v, i, r => (i, v) :: r
  | none, _, r => r
theorem consO_some (v : AV) (i : Nat) (r : List (Nat × AV)) : consO (some v) i r = (i, v) :: r := rfl
theorem consO_none (i : Nat) (r : List (Nat × AV)) : consO none i r = r := rfl
theorem keep_consO (T : List (Nat × AV)) (i : Nat) (l : List Nat) : keep T (i :: l) = consO (look T i) i (keep T l) := by
  rw [keep_cons]; cases look T i <;> rfl
theorem initT_nil (k : Nat) : initT k [] = [] := by simp only [initT]
theorem initT_cons (k : Nat) (a : AV) (r : List AV) : initT k (a :: r) = (k, a) :: initT (k + 1) r := by simp only [initT]
attribute [simp] put_some put_none kp_mk consO_some consO_none keep_consO keep_nil initT_nil initT_cons look_nil look_cons

section
variable (h : List Blk) (s : St)
theorem rvVs_nil : rvVs h s [] = some [] := by simp only [rvVs]
theorem rvVs_cons (x : RV) (xs : List RV) : rvVs h s (x :: xs) = ob (rvV h s x) fun v => ob (rvVs h s xs) fun vs => some (v :: vs) := by
  simp only [rvVs]; cases rvV h s x <;> cases rvVs h s xs <;> rfl
theorem rvV_tmp (t : Nat) : rvV h s (.tmp t) = look s.t t := by simp only [rvV]
theorem rvV_cell (t : Nat) (agg : Bool) (n : Nat) : rvV h s (.cell t agg n) = ob (evP h s (.load agg n (.t t))) fun p => some p.1 := by
  simp only [rvV]; rcases evP h s (.load agg n (.t t)) with _ | ⟨a, b⟩ <;> rfl
theorem frz1_nil : frz1 h s [] = some [] := by simp only [frz1]
theorem frz1_cons (v : AV) (r : List AV) : frz1 h s (v :: r) = ob (frz0 h s v) fun v => ob (frz1 h s r) fun r => some (v :: r) := by
  simp only [frz1]; cases frz0 h s v <;> cases frz1 h s r <;> rfl
theorem frz3_nil : frz3 h s [] = some [] := by simp only [frz3]
theorem frz3_cons (v : AV) (r : List AV) : frz3 h s (v :: r) = ob (frz2 h s v) fun v => ob (frz3 h s r) fun r => some (v :: r) := by
  simp only [frz3]; cases frz2 h s v <;> cases frz3 h s r <;> rfl
end
attribute [simp] rvVs_nil rvVs_cons rvV_tmp rvV_cell frz1_nil frz1_cons frz3_nil frz3_cons

@[simp ↓] theorem kpN_none (lv : List Nat) : kpN lv none = none := rfl
@[simp ↓] theorem bk_none (lv : List Nat) (id : Nat) : bk lv id none = none := rfl
/-- How a function's code ends. -/
def finE (H : List Blk) (rs : List RV) (esc : Bool) (s : St) : Option Res :=
  ob (rvVs H s rs) fun vs => if esc = true then some ⟨tupV vs, s.m, s.o⟩ else
    ob (frz3 H s vs) fun vs => if (s.m.all fun p => p.2.lt1 H.length) = true then some ⟨tupV vs, s.m, []⟩ else none

def fnEnd (H : List Blk) (rs : List RV) (esc : Bool) (r : Out) : Option Res :=
  match r with
  | some (.ret, s) => finE H rs esc s
  | some (.normal, s) => finE H rs esc s
  | _ => none
@[simp ↓] theorem fnEnd_ret (H : List Blk) (rs : List RV) (esc : Bool) (s : St) : fnEnd H rs esc (some (.ret, s)) = finE H rs esc s := rfl
@[simp ↓] theorem fnEnd_normal (H : List Blk) (rs : List RV) (esc : Bool) (s : St) : fnEnd H rs esc (some (.normal, s)) = finE H rs esc s := rfl
@[simp ↓] theorem fnEnd_none (H : List Blk) (rs : List RV) (esc : Bool) : fnEnd H rs esc none = none := rfl
@[simp ↓] theorem fnEnd_ite (H : List Blk) (rs : List RV) (esc : Bool) (c : Prop) [Decidable c] (a b : Out) : fnEnd H rs esc (if c then a else b) = if c then fnEnd H rs esc a else fnEnd H rs esc b := by split <;> rfl
attribute [simp] finE

theorem finish_finE (H : List Blk) (F : IFunc) (s : St) : finish H F s = finE H F.rs F.esc s := by
  unfold finish finE
  cases rvVs H s F.rs with
  | none => rfl
  | some vs =>
    simp only [ob_some']
    split
    · rfl
    · cases frz3 H s vs <;> rfl

theorem evBody_end (E : FnS) (F : IFunc) (args : List AV) (H : List Blk) (hl : args.length ≤ F.nt) : evBody E F args H = fnEnd H F.rs F.esc (evCode E H F.body ⟨initT 0 args, [], []⟩) := by
  unfold evBody fnEnd
  rw [if_pos hl]
  rcases evCode E H F.body ⟨initT 0 args, [], []⟩ with _ | ⟨e, s⟩
  · rfl
  · cases e
    · exact finish_finE H F s
    · rfl
    · exact finish_finE H F s

/-- The beginning of a function's walk. -/
theorem EvF_walk {T : Tab} {f : FuncId} {np nt : Nat} {rs : List RV} {esc : Bool} {c : IC} (hF : T.T f = some ⟨np, nt, rs, esc, c⟩) {args : List AV} {H : List Blk} {r : Res} (hl : args.length ≤ nt)
    (h : fnEnd H rs esc (evCode (EvF T) H c ⟨initT 0 args, [], []⟩) = some r) : EvF T f args H = some r :=
  EvF_body hF (by rw [evBody_end _ _ _ _ hl]; exact h)

/-! ### What simp looks into: the state, never the code, nor what comes behind -/
theorem sk_congr {r r' : Out} (hr : r = r') (k : St → Out) : sk r k = sk r' k := by rw [hr]
theorem fnEnd_congr {H : List Blk} {rs : List RV} {esc : Bool} {r r' : Out} (hr : r = r') : fnEnd H rs esc r = fnEnd H rs esc r' := by rw [hr]
theorem evCode_congr {E : FnS} {h : List Blk} {c : IC} {s s' : St} (hs : s = s') : evCode E h c s = evCode E h c s' := by rw [hs]
theorem evOps_congr {E : FnS} {h : List Blk} {ops : List AOper} {s s' : St} (hs : s = s') : evOps E h ops s = evOps E h ops s' := by rw [hs]
theorem evOne_congr {E : FnS} {h : List Blk} {nb : Nat} {hd : List Nat} {s s' : St} {o : AOper} (hs : s = s') : evOne E h nb hd s o = evOne E h nb hd s' o := by rw [hs]
theorem exOp_congr {E : FnS} {h : List Blk} {nb : Nat} {hd : List Nat} {s s' : St} {o : AOp} (hs : s = s') : exOp E h nb hd s o = exOp E h nb hd s' o := by rw [hs]
theorem evTake_congr {h : List Blk} {s s' : St} {o : AOper} (hs : s = s') : evTake h s o = evTake h s' o := by rw [hs]
theorem evP_congr {h : List Blk} {s s' : St} {o : AOp} (hs : s = s') : evP h s o = evP h s' o := by rw [hs]
theorem evI_congr {h : List Blk} {nb : Nat} {s s' : St} {o : AOp} (hs : s = s') : evI h nb s o = evI h nb s' o := by rw [hs]
theorem evLead_congr {E : FnS} {h : List Blk} {nb : Nat} {lv hd hd' : List Nat} {t : Tree} {s s' : St} (hh : hd = hd') (hs : s = s') : evLead E h nb lv hd t s = evLead E h nb lv hd' t s' := by rw [hs, hh]
theorem evTree_congr {E : FnS} {h : List Blk} {nb : Nat} {lv hd hd' : List Nat} {t : Tree} {s s' : St} (hh : hd = hd') (hs : s = s') : evTree E h nb lv hd t s = evTree E h nb lv hd' t s' := by rw [hs, hh]
theorem gdo_congr {α : Type} {s s' : St} {g : Option (Nat × Bool)} (hs : s = s') (yes no : St → Option α) : gdo s g yes no = gdo s' g yes no := by rw [hs]
theorem loopE_congr {E : FnS} {h : List Blk} {c : IC} {lv : List Nat} {s s' : St} (hs : s = s') : loopE E h c lv s = loopE E h c lv s' := by rw [hs]
attribute [congr] sk_congr fnEnd_congr evCode_congr evOps_congr evOne_congr exOp_congr evTake_congr evP_congr evI_congr evLead_congr evTree_congr gdo_congr loopE_congr

/-! ### One operation's arm at a time -/
section
variable (E : FnS) (h : List Blk) (nb : Nat) (hd : List Nat) (s : St)
theorem exOp_call (f : Opd) (xs : List Opd) : exOp E h nb hd s (.call f xs) = ob (AM.val s f) fun f => ob (AM.vals s xs) fun xs => evCall E h hd s f xs := by
  simp only [exOp]; cases AM.val s f <;> cases AM.vals s xs <;> rfl
theorem exOp_mov (x : Opd) : exOp E h nb hd s (.mov x) = ob (evP h s (.mov x)) fun p => some (p.1, s, []) := by simp only [exOp, AOp.acts]; rfl
theorem exOp_pick (c a b : Opd) : exOp E h nb hd s (.pick c a b) = ob (evP h s (.pick c a b)) fun p => some (p.1, s, []) := by simp only [exOp, AOp.acts]; rfl
theorem exOp_bin (op : BinOp) (x y : Opd) : exOp E h nb hd s (.bin op x y) = ob (evP h s (.bin op x y)) fun p => some (p.1, s, []) := by simp only [exOp, AOp.acts]; rfl
theorem exOp_eqs (neq agg : Bool) (ks : List LK) (x y : Opd) : exOp E h nb hd s (.eqs neq agg ks x y) = ob (evP h s (.eqs neq agg ks x y)) fun p => some (p.1, s, []) := by simp only [exOp, AOp.acts]; rfl
theorem exOp_isnil (neq : Bool) (kd : Nat) (x : Opd) : exOp E h nb hd s (.isnil neq kd x) = ob (evP h s (.isnil neq kd x)) fun p => some (p.1, s, []) := by simp only [exOp, AOp.acts]; rfl
theorem exOp_isnilS (neq : Bool) (x : Opd) : exOp E h nb hd s (.isnilS neq x) = ob (evP h s (.isnilS neq x)) fun p => some (p.1, s, []) := by simp only [exOp, AOp.acts]; rfl
theorem exOp_mk0 (sz : Nat) : exOp E h nb hd s (.mk0 sz) = evI h nb s (.mk0 sz) := by simp only [exOp, AOp.acts]; rfl
theorem exOp_un (op : UnOp) (x : Opd) : exOp E h nb hd s (.un op x) = ob (evP h s (.un op x)) fun p => some (p.1, s, []) := by simp only [exOp, AOp.acts]; rfl
theorem exOp_conv (k : IntKind) (x : Opd) : exOp E h nb hd s (.conv k x) = ob (evP h s (.conv k x)) fun p => some (p.1, s, []) := by simp only [exOp, AOp.acts]; rfl
theorem exOp_convId (x : Opd) : exOp E h nb hd s (.convId x) = ob (evP h s (.convId x)) fun p => some (p.1, s, []) := by simp only [exOp, AOp.acts]; rfl
theorem exOp_convBS (x : Opd) : exOp E h nb hd s (.convBS x) = evI h nb s (.convBS x) := by simp only [exOp, AOp.acts]; rfl
theorem exOp_field (agg : Bool) (off n : Nat) (x : Opd) : exOp E h nb hd s (.field agg off n x) = ob (evP h s (.field agg off n x)) fun p => some (p.1, s, []) := by simp only [exOp, AOp.acts]; rfl
theorem exOp_faddr (off : Nat) (p : Opd) : exOp E h nb hd s (.faddr off p) = ob (evP h s (.faddr off p)) fun p => some (p.1, s, []) := by simp only [exOp, AOp.acts]; rfl
theorem exOp_iaddr (sz : Nat) (x i : Opd) : exOp E h nb hd s (.iaddr sz x i) = ob (evP h s (.iaddr sz x i)) fun p => some (p.1, s, []) := by simp only [exOp, AOp.acts]; rfl
theorem exOp_iaddrA (len sz : Nat) (p i : Opd) : exOp E h nb hd s (.iaddrA len sz p i) = ob (evP h s (.iaddrA len sz p i)) fun p => some (p.1, s, []) := by simp only [exOp, AOp.acts]; rfl
theorem exOp_index (x i : Opd) : exOp E h nb hd s (.index x i) = ob (evP h s (.index x i)) fun p => some (p.1, s, []) := by simp only [exOp, AOp.acts]; rfl
theorem exOp_indexA (agg : Bool) (len sz : Nat) (x i : Opd) : exOp E h nb hd s (.indexA agg len sz x i) = ob (evP h s (.indexA agg len sz x i)) fun p => some (p.1, s, []) := by simp only [exOp, AOp.acts]; rfl
theorem exOp_load (agg : Bool) (n : Nat) (p : Opd) : exOp E h nb hd s (.load agg n p) = ob (evP h s (.load agg n p)) fun p => some (p.1, s, []) := by simp only [exOp, AOp.acts]; rfl
theorem exOp_glob (g : Nat) : exOp E h nb hd s (.glob g) = ob (evP h s (.glob g)) fun p => some (p.1, s, []) := by simp only [exOp, AOp.acts]; rfl
theorem exOp_ext (j : Nat) (x : Opd) : exOp E h nb hd s (.ext j x) = ob (evP h s (.ext j x)) fun p => some (p.1, s, []) := by simp only [exOp, AOp.acts]; rfl
theorem exOp_len (x : Opd) : exOp E h nb hd s (.len x) = ob (evP h s (.len x)) fun p => some (p.1, s, []) := by simp only [exOp, AOp.acts]; rfl
theorem exOp_lenS (x : Opd) : exOp E h nb hd s (.lenS x) = ob (evP h s (.lenS x)) fun p => some (p.1, s, []) := by simp only [exOp, AOp.acts]; rfl
theorem exOp_cap (x : Opd) : exOp E h nb hd s (.cap x) = ob (evP h s (.cap x)) fun p => some (p.1, s, []) := by simp only [exOp, AOp.acts]; rfl
theorem exOp_mx (x : Opd) (xs : List Opd) : exOp E h nb hd s (.mx x xs) = ob (evP h s (.mx x xs)) fun p => some (p.1, s, []) := by simp only [exOp, AOp.acts]; rfl
theorem exOp_mn (x : Opd) (xs : List Opd) : exOp E h nb hd s (.mn x xs) = ob (evP h s (.mn x xs)) fun p => some (p.1, s, []) := by simp only [exOp, AOp.acts]; rfl
theorem exOp_build (z : List AV) (ps : List (Nat × Nat × Opd)) : exOp E h nb hd s (.build z ps) = ob (evP h s (.build z ps)) fun p => some (p.1, s, []) := by simp only [exOp, AOp.acts]; rfl
theorem exOp_slc (sz : Nat) (x : Opd) (lo hi : Option Opd) : exOp E h nb hd s (.slc sz x lo hi) = ob (evP h s (.slc sz x lo hi)) fun p => some (p.1, s, []) := by simp only [exOp, AOp.acts]; rfl
theorem exOp_slc3 (sz : Nat) (x : Opd) (lo hi mx : Option Opd) : exOp E h nb hd s (.slc3 sz x lo hi mx) = ob (evP h s (.slc3 sz x lo hi mx)) fun p => some (p.1, s, []) := by simp only [exOp, AOp.acts]; rfl
theorem exOp_slcS (x : Opd) (lo hi : Option Opd) : exOp E h nb hd s (.slcS x lo hi) = ob (evP h s (.slcS x lo hi)) fun p => some (p.1, s, []) := by simp only [exOp, AOp.acts]; rfl
theorem exOp_mkif (t : TypeId) (x : Opd) : exOp E h nb hd s (.mkif t x) = ob (evP h s (.mkif t x)) fun p => some (p.1, s, []) := by simp only [exOp, AOp.acts]; rfl
theorem exOp_mkfn (f : FuncId) (caps : List Opd) : exOp E h nb hd s (.mkfn f caps) = ob (evP h s (.mkfn f caps)) fun p => some (p.1, s, []) := by simp only [exOp, AOp.acts]; rfl
theorem exOp_mkbv (f : FuncId) (first : List Opd) : exOp E h nb hd s (.mkbv f first) = ob (evP h s (.mkbv f first)) fun p => some (p.1, s, []) := by simp only [exOp, AOp.acts]; rfl
theorem exOp_mkvia (t : TypeId) (path : List FieldStep) (f : FuncId) (pointer : Bool) : exOp E h nb hd s (.mkvia t path f pointer) = ob (evP h s (.mkvia t path f pointer)) fun p => some (p.1, s, []) := by simp only [exOp, AOp.acts]; rfl
theorem exOp_nilchk (x : Opd) : exOp E h nb hd s (.nilchk x) = ob (evP h s (.nilchk x)) fun p => some (p.1, s, []) := by simp only [exOp, AOp.acts]; rfl
theorem exOp_nres (sz : Nat) : exOp E h nb hd s (.nres sz) = evI h nb s (.nres sz) := by simp only [exOp, AOp.acts]; rfl
theorem exOp_alloc (z : List Z) : exOp E h nb hd s (.alloc z) = evI h nb s (.alloc z) := by simp only [exOp, AOp.acts]; rfl
theorem exOp_allocAt (k : Nat) (z : List Z) : exOp E h nb hd s (.allocAt k z) = evI h nb s (.allocAt k z) := by simp only [exOp, AOp.acts]; rfl
theorem exOp_box (x : Opd) : exOp E h nb hd s (.box x) = evI h nb s (.box x) := by simp only [exOp, AOp.acts]; rfl
theorem exOp_bslice (sz len : Nat) (z : List GV) (ps : List (Nat × Nat × Opd)) : exOp E h nb hd s (.bslice sz len z ps) = evI h nb s (.bslice sz len z ps) := by simp only [exOp, AOp.acts]; rfl
theorem exOp_store (n : Nat) (p x : Opd) : exOp E h nb hd s (.store n p x) = evI h nb s (.store n p x) := by simp only [exOp, AOp.acts]; rfl
theorem exOp_mk (sz bytes : Nat) (z : List GV) (len cap : Opd) : exOp E h nb hd s (.mk sz bytes z len cap) = evI h nb s (.mk sz bytes z len cap) := by simp only [exOp, AOp.acts]; rfl
theorem exOp_app (sz bytes : Nat) (x y : Opd) : exOp E h nb hd s (.app sz bytes x y) = evI h nb s (.app sz bytes x y) := by simp only [exOp, AOp.acts]; rfl
theorem exOp_appS (x y : Opd) : exOp E h nb hd s (.appS x y) = evI h nb s (.appS x y) := by simp only [exOp, AOp.acts]; rfl
theorem exOp_appZ (sz bytes : Nat) (z : List GV) (x n : Opd) : exOp E h nb hd s (.appZ sz bytes z x n) = evI h nb s (.appZ sz bytes z x n) := by simp only [exOp, AOp.acts]; rfl
theorem exOp_clear (z : List GV) (x : Opd) : exOp E h nb hd s (.clear z x) = evI h nb s (.clear z x) := by simp only [exOp, AOp.acts]; rfl
theorem exOp_convSB (x : Opd) : exOp E h nb hd s (.convSB x) = evI h nb s (.convSB x) := by simp only [exOp, AOp.acts]; rfl
theorem exOp_allocT (T e : TypeId) (z : List Z) : exOp E h nb hd s (.allocT T e z) = evI h nb s (.allocT T e z) := by simp only [exOp, AOp.acts]; rfl
theorem exOp_appT (e : TypeId) (x y : Opd) : exOp E h nb hd s (.appT e x y) = evI h nb s (.appT e x y) := by simp only [exOp, AOp.acts]; rfl
theorem exOp_toU (x : Opd) : exOp E h nb hd s (.toU x) = evI h nb s (.toU x) := by simp only [exOp, AOp.acts]; rfl
theorem exOp_fromU (ts : List (TypeId × Nat)) (x : Opd) : exOp E h nb hd s (.fromU ts x) = evI h nb s (.fromU ts x) := by simp only [exOp, AOp.acts]; rfl
theorem exOp_sdata (x : Opd) : exOp E h nb hd s (.sdata x) = evI h nb s (.sdata x) := by simp only [exOp, AOp.acts]; rfl
theorem exOp_ustr (e : TypeId) (x y : Opd) : exOp E h nb hd s (.ustr e x y) = evI h nb s (.ustr e x y) := by simp only [exOp, AOp.acts]; rfl
theorem exOp_neqp (x y : Opd) : exOp E h nb hd s (.neqp x y) = evI h nb s (.neqp x y) := by simp only [exOp, AOp.acts]; rfl
theorem exOp_mkmap : exOp E h nb hd s .mkmap = evI h nb s .mkmap := by simp only [exOp, AOp.acts]; rfl
theorem exOp_mget (cm : Bool) (kk : LK) (z : Option GV) (x k : Opd) : exOp E h nb hd s (.mget cm kk z x k) = evI h nb s (.mget cm kk z x k) := by simp only [exOp, AOp.acts]; rfl
theorem exOp_mset (kk : LK) (x k v : Opd) : exOp E h nb hd s (.mset kk x k v) = evI h nb s (.mset kk x k v) := by simp only [exOp, AOp.acts]; rfl
theorem exOp_mkmap2 : exOp E h nb hd s .mkmap2 = evI h nb s .mkmap2 := by simp only [exOp, AOp.acts]; rfl
theorem exOp_mget2 (cm : Bool) (ks : List LK) (z : Option GV) (x k : Opd) : exOp E h nb hd s (.mget2 cm ks z x k) = evI h nb s (.mget2 cm ks z x k) := by simp only [exOp, AOp.acts]; rfl
theorem exOp_mset2 (ks : List LK) (x k v : Opd) : exOp E h nb hd s (.mset2 ks x k v) = evI h nb s (.mset2 ks x k v) := by simp only [exOp, AOp.acts]; rfl
attribute [simp] exOp_glob exOp_mkmap2 exOp_mget2 exOp_mset2 exOp_mkmap exOp_mget exOp_mset exOp_allocT exOp_appT exOp_toU exOp_fromU exOp_sdata exOp_ustr exOp_neqp exOp_call exOp_mov exOp_pick exOp_bin exOp_eqs exOp_isnil exOp_isnilS exOp_mk0 exOp_un exOp_conv exOp_convId exOp_convBS exOp_field exOp_faddr exOp_iaddr exOp_iaddrA exOp_index exOp_indexA exOp_load exOp_ext exOp_len exOp_lenS exOp_cap exOp_mx exOp_mn exOp_build exOp_slc exOp_slc3 exOp_slcS exOp_mkif exOp_mkfn exOp_mkbv exOp_mkvia exOp_nilchk exOp_nres exOp_alloc exOp_allocAt exOp_box exOp_bslice exOp_store exOp_mk exOp_app exOp_appS exOp_appZ exOp_clear exOp_convSB
end

/-! ### Values' arms at a time -/
@[simp] theorem cellsO_g (v : GV) : (AV.g v).cellsO = some [.g v] := by simp only [AV.cellsO]
@[simp] theorem cellsO_agg (cs : List AV) : (AV.agg cs).cellsO = some cs := by simp only [AV.cellsO]
@[simp] theorem cellsO_ptr (a b : Nat) : (AV.ptr a b).cellsO = some [.ptr a b] := by simp only [AV.cellsO]
@[simp] theorem cellsO_ms (a b c d e : Nat) : (AV.ms a b c d e).cellsO = some [.ms a b c d e] := by simp only [AV.cellsO]
@[simp] theorem cellsO_cp (cs : List GV) : (AV.cp cs).cellsO = some [.cp cs] := by simp only [AV.cellsO]
@[simp] theorem cellsO_fv (f : FuncId) (cs : List AV) : (AV.fv f cs).cellsO = some [.fv f cs] := by simp only [AV.cellsO]
@[simp] theorem cellsO_bv (f : FuncId) (cs : List AV) : (AV.bv f cs).cellsO = some [.bv f cs] := by simp only [AV.cellsO]
@[simp] theorem cellsO_ifa (t : TypeId) (v : AV) : (AV.ifa t v).cellsO = some [.ifa t v] := by simp only [AV.cellsO]
@[simp] theorem cellsO_mp (i : Nat) : (AV.mp i).cellsO = some [.mp i] := by simp only [AV.cellsO]
@[simp] theorem leaf_g (v : GV) : (AV.g v).leaf = true := by simp only [AV.leaf]
@[simp] theorem leaf_ptr (a b : Nat) : (AV.ptr a b).leaf = true := by simp only [AV.leaf]
@[simp] theorem leaf_ms (a b c d e : Nat) : (AV.ms a b c d e).leaf = true := by simp only [AV.leaf]
@[simp] theorem leaf_cp (cs : List GV) : (AV.cp cs).leaf = true := by simp only [AV.leaf]
@[simp] theorem leaf_fv (f : FuncId) (cs : List AV) : (AV.fv f cs).leaf = true := by simp only [AV.leaf]
@[simp] theorem leaf_bv (f : FuncId) (cs : List AV) : (AV.bv f cs).leaf = true := by simp only [AV.leaf]
@[simp] theorem leaf_ifa (t : TypeId) (v : AV) : (AV.ifa t v).leaf = true := by simp only [AV.leaf]
@[simp] theorem leaf_mp (i : Nat) : (AV.mp i).leaf = true := by simp only [AV.leaf]
@[simp] theorem lt0_g (n : Nat) (v : GV) : (AV.g v).lt0 n = true := by simp only [AV.lt0]
@[simp] theorem lt0_cp (n : Nat) (v : List GV) : (AV.cp v).lt0 n = true := by simp only [AV.lt0]
@[simp] theorem lt0_ptr (n a b : Nat) : (AV.ptr a b).lt0 n = decide (a < n) := by simp only [AV.lt0]
@[simp] theorem lt0_ms (n a b c d e : Nat) : (AV.ms a b c d e).lt0 n = decide (a < n) := by simp only [AV.lt0]
@[simp] theorem lt1_g (n : Nat) (v : GV) : (AV.g v).lt1 n = true := by simp only [AV.lt1, AV.lt0]
@[simp] theorem lt1_cp (n : Nat) (v : List GV) : (AV.cp v).lt1 n = true := by simp only [AV.lt1, AV.lt0]
@[simp] theorem lt1_ptr (n a b : Nat) : (AV.ptr a b).lt1 n = decide (a < n) := by simp only [AV.lt1, AV.lt0]
@[simp] theorem lt1_ms (n a b c d e : Nat) : (AV.ms a b c d e).lt1 n = decide (a < n) := by simp only [AV.lt1, AV.lt0]
@[simp] theorem frz0_g (h : List Blk) (s : St) (v : GV) : frz0 h s (.g v) = some (.g v) := by simp only [frz0, AV.lt1, AV.lt0]; rfl
@[simp] theorem frz0_ms (h : List Blk) (s : St) (id gen sz off len : Nat) : frz0 h s (.ms id gen sz off len) = if id < h.length then some (.ms id gen sz off len) else
    ob (viewN h s sz (.ms id gen sz off len)) fun els => some (.g (if gen = 1 then .nsl else .sl sz els)) := by
  simp only [frz0]
  split
  · rfl
  · cases viewN h s sz (.ms id gen sz off len) <;> rfl
@[simp] theorem frz0_ptr (h : List Blk) (s : St) (a b : Nat) : frz0 h s (.ptr a b) = if a < h.length then some (.ptr a b) else none := by simp [frz0]
@[simp] theorem frz2_g (h : List Blk) (s : St) (v : GV) : frz2 h s (.g v) = some (.g v) := by simp only [frz2, frz0, AV.lt1, AV.lt0]; rfl
@[simp] theorem frz2_agg (h : List Blk) (s : St) (cs : List AV) : frz2 h s (.agg cs) = ob (frz1 h s cs) fun cs => some (.agg cs) := by simp only [frz2]; cases frz1 h s cs <;> rfl
@[simp] theorem frz2_ms (h : List Blk) (s : St) (a b c d e : Nat) : frz2 h s (.ms a b c d e) = frz0 h s (.ms a b c d e) := by simp only [frz2]
@[simp] theorem frz2_ptr (h : List Blk) (s : St) (a b : Nat) : frz2 h s (.ptr a b) = frz0 h s (.ptr a b) := by simp only [frz2]
@[simp] theorem tupV_one (v : AV) : tupV [v] = v := rfl
@[simp] theorem tupV_nil : tupV [] = .tup [] := rfl
@[simp] theorem tupV_two (a b : AV) (r : List AV) : tupV (a :: b :: r) = .tup (a :: b :: r) := rfl
/-! ### Whole numbers' arms -/
def orI (k : IntKind) (a b : Int) : Int := k.wrap (BitVec.ofInt k.bits a ||| BitVec.ofInt k.bits b).toNat
def andI (k : IntKind) (a b : Int) : Int := k.wrap (BitVec.ofInt k.bits a &&& BitVec.ofInt k.bits b).toNat
def xorI (k : IntKind) (a b : Int) : Int := k.wrap (BitVec.ofInt k.bits a ^^^ BitVec.ofInt k.bits b).toNat
def andNotI (k : IntKind) (a b : Int) : Int := k.wrap (BitVec.ofInt k.bits a &&& ~~~ BitVec.ofInt k.bits b).toNat
section
variable (k : IntKind) (a b : Int)
@[simp] theorem binV_add : binV .add (.g (.int k a)) (.g (.int k b)) = some (.g (.int k (k.wrap (a + b)))) := by simp [binV, intOp]
@[simp] theorem binV_sub : binV .sub (.g (.int k a)) (.g (.int k b)) = some (.g (.int k (k.wrap (a - b)))) := by simp [binV, intOp]
@[simp] theorem binV_mul : binV .mul (.g (.int k a)) (.g (.int k b)) = some (.g (.int k (k.wrap (a * b)))) := by simp [binV, intOp]
@[simp] theorem binV_quo : binV .quo (.g (.int k a)) (.g (.int k b)) = if b = 0 then none else some (.g (.int k (k.wrap (a.tdiv b)))) := by simp [binV, intOp]
@[simp] theorem binV_rem : binV .rem (.g (.int k a)) (.g (.int k b)) = if b = 0 then none else some (.g (.int k (a.tmod b))) := by simp [binV, intOp]
@[simp] theorem binV_and : binV .and (.g (.int k a)) (.g (.int k b)) = some (.g (.int k (andI k a b))) := by simp [binV, intOp, andI]
@[simp] theorem binV_or : binV .or (.g (.int k a)) (.g (.int k b)) = some (.g (.int k (orI k a b))) := by simp [binV, intOp, orI]
@[simp] theorem binV_xor : binV .xor (.g (.int k a)) (.g (.int k b)) = some (.g (.int k (xorI k a b))) := by simp [binV, intOp, xorI]
@[simp] theorem binV_andNot : binV .andNot (.g (.int k a)) (.g (.int k b)) = some (.g (.int k (andNotI k a b))) := by simp [binV, intOp, andNotI]
@[simp] theorem binV_eql : binV .eql (.g (.int k a)) (.g (.int k b)) = some (.g (.bool (a == b))) := by simp [binV, intOp]
@[simp] theorem binV_neq : binV .neq (.g (.int k a)) (.g (.int k b)) = some (.g (.bool (a != b))) := by simp [binV, intOp]
@[simp] theorem binV_lss : binV .lss (.g (.int k a)) (.g (.int k b)) = some (.g (.bool (decide (a < b)))) := by simp [binV, intOp]
@[simp] theorem binV_leq : binV .leq (.g (.int k a)) (.g (.int k b)) = some (.g (.bool (decide (a ≤ b)))) := by simp [binV, intOp]
@[simp] theorem binV_gtr : binV .gtr (.g (.int k a)) (.g (.int k b)) = some (.g (.bool (decide (b < a)))) := by simp [binV, intOp]
@[simp] theorem binV_geq : binV .geq (.g (.int k a)) (.g (.int k b)) = some (.g (.bool (decide (b ≤ a)))) := by simp [binV, intOp]
@[simp] theorem binV_shl (k' : IntKind) : binV .shl (.g (.int k a)) (.g (.int k' b)) = if b < 0 then none else some (.g (.int k (k.wrap (a * 2 ^ (min b.toNat k.bits))))) := by simp [binV, shiftOp]
@[simp] theorem binV_shr (k' : IntKind) : binV .shr (.g (.int k a)) (.g (.int k' b)) = if b < 0 then none else some (.g (.int k (a.fdiv (2 ^ (min b.toNat k.bits))))) := by simp [binV, shiftOp]
end
section
variable (a b : List UInt8)
@[simp] theorem binV_sadd : binV .add (.g (.str a)) (.g (.str b)) = if a.length + b.length ≤ 9223372036854775807 then some (.g (.str (a ++ b))) else none := by simp [binV, strOp]
@[simp] theorem binV_seql : binV .eql (.g (.str a)) (.g (.str b)) = some (.g (.bool (a == b))) := by simp [binV, strOp]
@[simp] theorem binV_sneq : binV .neq (.g (.str a)) (.g (.str b)) = some (.g (.bool (!(a == b)))) := by simp [binV, strOp]
@[simp] theorem binV_slss : binV .lss (.g (.str a)) (.g (.str b)) = some (.g (.bool (Op.bytesLess a b))) := by simp [binV, strOp]
@[simp] theorem binV_sleq : binV .leq (.g (.str a)) (.g (.str b)) = some (.g (.bool (Op.bytesLess a b || a == b))) := by simp [binV, strOp]
@[simp] theorem binV_sgtr : binV .gtr (.g (.str a)) (.g (.str b)) = some (.g (.bool (!(Op.bytesLess a b || a == b)))) := by simp [binV, strOp]
@[simp] theorem binV_sgeq : binV .geq (.g (.str a)) (.g (.str b)) = some (.g (.bool (!(Op.bytesLess a b)))) := by simp [binV, strOp]
end

/-! ### Calls -/
theorem evCall_fn (E : FnS) (h : List Blk) (s : St) (f : FuncId) (xs : List AV) : evCall E h [] s (.g (.fn f)) xs = fin h [] s (E f xs (full h s)) := by simp [evCall, hideB]
@[simp ↓] theorem fin_plain (h : List Blk) (hd : List Nat) (s : St) (r : AV) : fin h hd s (some ⟨r, [], []⟩) = some (r, s, []) := by simp [fin, setAll, St.app]
@[simp ↓] theorem fin_none (h : List Blk) (hd : List Nat) (s : St) : fin h hd s none = none := rfl
@[simp ↓] theorem fin_ite (h : List Blk) (hd : List Nat) (s : St) (c : Prop) [Decidable c] (a b : Option Res) : fin h hd s (if c then a else b) = if c then fin h hd s a else fin h hd s b := by split <;> rfl

/-! ### Own blocks -/
@[simp] theorem getB_own0 (h : List Blk) (t : List (Nat × AV)) (m : List (Nat × Blk)) (o : List Blk) : getB h ⟨t, m, o⟩ h.length = o[0]? := by simp [getB]
@[simp] theorem getB_own (h : List Blk) (t : List (Nat × AV)) (m : List (Nat × Blk)) (o : List Blk) (k : Nat) : getB h ⟨t, m, o⟩ (h.length + k) = o[k]? := by
  have : ¬ h.length + k < h.length := by omega
  simp [getB, this]
@[simp] theorem setB_own0 (h : List Blk) (t : List (Nat × AV)) (m : List (Nat × Blk)) (o : List Blk) (b : Blk) : setB h ⟨t, m, o⟩ h.length b = ⟨t, m, o.set 0 b⟩ := by simp [setB]
@[simp] theorem setB_own (h : List Blk) (t : List (Nat × AV)) (m : List (Nat × Blk)) (o : List Blk) (k : Nat) (b : Blk) : setB h ⟨t, m, o⟩ (h.length + k) b = ⟨t, m, o.set k b⟩ := by
  have : ¬ h.length + k < h.length := by omega
  simp [setB, this]
section
variable (h : List Blk) (s : St)
@[simp] theorem lenV_sl (sz : Nat) (els : List (List GV)) : lenV h s (.g (.sl sz els)) = some els.length := by simp only [lenV]
@[simp] theorem lenV_nsl : lenV h s (.g .nsl) = some 0 := by simp only [lenV]
@[simp] theorem lenV_ms (id g a b n : Nat) : lenV h s (.ms id g a b n) = if cur h s id g = true then some n else none := by simp only [lenV]
@[simp] theorem viewN_sl (sz sz' : Nat) (els : List (List GV)) : viewN h s sz (.g (.sl sz' els)) = if sz = sz' then some els else none := by simp only [viewN]
@[simp] theorem viewN_nsl (sz : Nat) : viewN h s sz (.g .nsl) = some [] := by simp only [viewN]
@[simp] theorem viewN_ms (sz id g sz' off len : Nat) : viewN h s sz (.ms id g sz' off len) = if sz = sz' then match getB h s id with
      | some (.rows sz2 g' els) => if g = g' ∧ sz2 = sz ∧ off + len ≤ els.length then some ((els.drop off).take len) else none
      | some (.fro sz2 g' els) => if g = g' ∧ sz2 = sz ∧ off + len ≤ els.length then some ((els.drop off).take len) else none
      | _ => none
    else none := by simp only [viewN]; rfl
end
attribute [simp] cur storeV St.push St.next grounds isNil eqV eqL eqG sub AM.one

end Go.AM
end
section
namespace Go.AM
open Go

theorem wrap_i64 {n : Int} (h1 : -9223372036854775808 ≤ n) (h2 : n ≤ 9223372036854775807) : IntKind.i64.wrap n = n := by
  simp [IntKind.wrap, IntKind.signed, IntKind.bits]
  split <;> omega
theorem wrap_u64 {n : Int} (h1 : 0 ≤ n) (h2 : n ≤ 18446744073709551615) : IntKind.u64.wrap n = n := by
  simp [IntKind.wrap, IntKind.signed, IntKind.bits]
  omega
theorem wrap_u64_mod (n : Int) : IntKind.u64.wrap n = n % 18446744073709551616 := by
  simp [IntKind.wrap, IntKind.signed, IntKind.bits]
theorem wrap_u8 (n : Int) : IntKind.u8.wrap n = n % 256 := by
  simp [IntKind.wrap, IntKind.signed, IntKind.bits]
@[simp] theorem bits_u64 : IntKind.u64.bits = 64 := rfl
@[simp] theorem bits_i64 : IntKind.i64.bits = 64 := rfl
@[simp] theorem bits_u8 : IntKind.u8.bits = 8 := rfl

end Go.AM
end
section
set_option linter.unusedSimpArgs false
set_option linter.unusedVariables false
set_option linter.constructorNameAsVariable false
namespace Go.AM
open Go Go.RowKit Go.ChangeShapes Go.WideShapes

/-- What a type's cells are. -/
inductive GTy where
  | b
  | i (k : IntKind)
  | s
  | sl (n : Nat) (e : GTy)
  | u
  | p (a b : GTy)
  deriving Inhabited, DecidableEq

def HasTy : GTy → List GV → Prop
  | .b, gs => ∃ x, gs = [.bool x]
  | .i k, gs => ∃ n, gs = [.int k n] ∧ k.min ≤ n ∧ n ≤ k.max
  | .s, gs => ∃ s, gs = [.str s] ∧ s.length ≤ 9223372036854775807
  | .sl n e, gs => gs = [.nsl] ∨ ∃ els : List (List GV), gs = [.sl n els] ∧ els.length ≤ 9223372036854775807 ∧ ∀ el ∈ els, HasTy e el
  | .u, gs => gs = []
  | .p a b, gs => ∃ x y, gs = x ++ y ∧ HasTy a x ∧ HasTy b y

def descrL (D : TypeId → Option GTy) : List (Nat × TypeId) → Option GTy
  | [] => some .u
  | (_, t) :: r => match D t, descrL D r with
    | some a, some b => some (.p a b)
    | _, _ => none

def descr (P : Program) : Nat → TypeId → Option GTy
  | 0, _ => none
  | d + 1, t => match P.underlying t with
    | some .bool => some .b
    | some (.int k) => some (.i k)
    | some .string => some .s
    | some (.slice e) => match descr P d e with
      | some x => some (.sl (P.cellsOf e) x)
      | none => none
    | some (.struct fs) => if tileP P (partsF fs) 0 (P.cellsOf t) = true then descrL (descr P d) (partsF fs) else none
    | some (.array n e) => if tileP P (partsA P n e) 0 (P.cellsOf t) = true then descrL (descr P d) (partsA P n e) else none
    | _ => none

theorem tileP_le {P : Program} : ∀ (ps : List (Nat × TypeId)) (off e : Nat), tileP P ps off e = true → off ≤ e
  | [], off, e, h => by simp [tileP] at h; omega
  | p :: ps, off, e, h => by
    simp only [tileP, Bool.and_eq_true] at h
    have := tileP_le ps _ _ h.2
    omega

theorem hasL {P : Program} {D : TypeId → Option GTy} {Q : TypeId → List GV → Prop} (hD : ∀ t ty gs, D t = some ty → Q t gs → HasTy ty gs) {gs : List GV} :
    ∀ (ps : List (Nat × TypeId)) (off : Nat) (ty : GTy), tileP P ps off gs.length = true → descrL D ps = some ty → (∀ p ∈ ps, Q p.2 ((gs.drop p.1).take (P.cellsOf p.2))) → HasTy ty (gs.drop off)
  | [], off, ty, ht, hd, hq => by
    simp [tileP] at ht
    simp only [descrL] at hd
    cases hd
    subst ht
    simp [HasTy]
  | (o, t) :: r, off, ty, ht, hd, hq => by
    simp only [tileP, Bool.and_eq_true, decide_eq_true_eq] at ht
    obtain ⟨rfl, ht⟩ := ht
    simp only [descrL] at hd
    split at hd
    · rename_i a b ha hb
      cases hd
      have h1 := hD t a _ ha (hq (o, t) (by simp))
      have h2 := hasL hD r _ b ht hb (fun p hp => hq p (by simp [hp]))
      simp only [HasTy]
      refine ⟨_, _, ?_, h1, h2⟩
      rw [← List.drop_drop]
      exact (List.take_append_drop _ _).symm
    · cases hd

theorem hasTy {P : Program} : ∀ (d : Nat) (t : TypeId) (ty : GTy) (gs : List GV), descr P d t = some ty → TypG P d t gs → HasTy ty gs
  | 0, _, _, _, h, _ => by cases h
  | d + 1, t, ty, gs, h, hg => by
    simp only [descr] at h
    simp only [TypG] at hg
    split at h
    · rename_i hu; rw [hu] at hg; cases h; exact hg
    · rename_i k hu
      rw [hu] at hg
      cases h
      obtain ⟨n, rfl, hw⟩ := hg
      simp only [Lit.wf, Bool.and_eq_true, decide_eq_true_eq] at hw
      exact ⟨n, rfl, hw.1, hw.2⟩
    · rename_i hu; rw [hu] at hg; cases h; exact hg
    · rename_i e hu
      rw [hu] at hg
      split at h
      · rename_i x hx
        cases h
        rcases hg with rfl | ⟨els, rfl, hl, he⟩
        · exact .inl rfl
        · exact .inr ⟨els, rfl, hl, fun el hel => hasTy d e x el hx (he el hel).2⟩
      · cases h
    · rename_i fs hu
      rw [hu] at hg
      split at h
      · rename_i ht
        have := hasL (P := P) (gs := gs) (Q := TypG P d) (fun t ty gs h1 h2 => hasTy d t ty gs h1 h2) (partsF fs) 0 ty (by rw [hg.1]; exact ht) h hg.2
        simpa using this
      · cases h
    · rename_i n e hu
      rw [hu] at hg
      split at h
      · rename_i ht
        have := hasL (P := P) (gs := gs) (Q := TypG P d) (fun t ty gs h1 h2 => hasTy d t ty gs h1 h2) (partsA P n e) 0 ty (by rw [hg.1]; exact ht) h hg.2
        simpa using this
      · cases h
    · cases h

/-! ### A law's arguments -/
def isAggT (P : Program) (t : TypeId) : Bool :=
  match P.underlying t with
  | some (.struct _) | some (.array _ _) => true
  | _ => false

def avG (agg : Bool) (gs : List GV) : AV := if agg = true then .agg (gs.map .g) else oneG gs

def avsG : List (Bool × GTy) → List (List GV) → List AV
  | (a, _) :: ts, g :: gs => avG a g :: avsG ts gs
  | _, _ => []

def HasAll : List (Bool × GTy) → List (List GV) → Prop
  | [], [] => True
  | t :: ts, g :: gs => HasTy t.2 g ∧ HasAll ts gs
  | _, _ => False

def descrs (P : Program) (d : Nat) : List TypeId → Option (List (Bool × GTy))
  | [] => some []
  | t :: ts => match descr P d t, descrs P d ts with
    | some a, some r => some ((isAggT P t, a) :: r)
    | _, _ => none

theorem avT_avG (P : Program) (t : TypeId) (gs : List GV) : avT P t gs = avG (isAggT P t) gs := by
  cases hu : P.underlying t with
  | none => simp [avT, avG, isAggT, hu]
  | some d => cases d <;> simp [avT, avG, isAggT, hu]

theorem all_ok {P : Program} {d : Nat} : ∀ (ts : List TypeId) (tys : List (Bool × GTy)) (gss : List (List GV)), descrs P d ts = some tys → TypAll P d ts gss → HasAll tys gss ∧ avs P ts gss = avsG tys gss
  | [], tys, gss, h, hg => by
    simp only [descrs] at h
    cases h
    obtain rfl := hg.nil_inv
    exact ⟨trivial, rfl⟩
  | t :: ts, tys, gss, h, hg => by
    obtain ⟨g, gs, rfl, h1, h2⟩ := hg.cons_inv
    simp only [descrs] at h
    split at h
    · rename_i a r ha hr
      cases h
      obtain ⟨k1, k2⟩ := all_ok ts r gs hr h2
      exact ⟨⟨hasTy d t a g ha h1, k1⟩, by simp only [avs, avsG, k2, avT_avG]⟩
    · cases h

/-- What is asked of a law's function, by the arguments' shapes. -/
theorem spec_of {T : Tab} {P : Program} {f : FuncId} {d : Nat} {ts : List TypeId} {tys : List (Bool × GTy)} (h : descrs P d ts = some tys)
    (spec : ∀ gss, HasAll tys gss → EvF T f (avsG tys gss) [] = some ⟨.g (.bool true), [], []⟩) :
    ∀ gss, TypAll P d ts gss → EvF T f (avs P ts gss) [] = some ⟨.g (.bool true), [], []⟩ := fun gss hg => by
  obtain ⟨k1, k2⟩ := all_ok ts tys gss h hg
  rw [k2]
  exact spec gss k1

theorem HasAll.cons_inv {t : Bool × GTy} {ts : List (Bool × GTy)} {gss : List (List GV)} (h : HasAll (t :: ts) gss) : ∃ g gs, gss = g :: gs ∧ HasTy t.2 g ∧ HasAll ts gs := by
  cases gss with
  | nil => exact h.elim
  | cons g gs => exact ⟨g, gs, rfl, h.1, h.2⟩
theorem HasAll.nil_inv {gss : List (List GV)} (h : HasAll [] gss) : gss = [] := by
  cases gss with
  | nil => rfl
  | cons g gs => exact h.elim

/-! ### Slices of things -/
inductive Sl (α : Type) where
  | nil
  | of (l : List α)

def Sl.l {α : Type} : Sl α → List α
  | .nil => []
  | .of l => l

def Sl.g {α : Type} (n : Nat) (c : α → List GV) : Sl α → GV
  | .nil => .nsl
  | .of l => .sl n (l.map c)

@[simp] theorem Sl.g_nil {α : Type} (n : Nat) (c : α → List GV) : (Sl.nil : Sl α).g n c = .nsl := rfl
@[simp] theorem Sl.g_of {α : Type} (n : Nat) (c : α → List GV) (l : List α) : (Sl.of l).g n c = .sl n (l.map c) := rfl
@[simp] theorem lenV_Sl {α : Type} (h : List Blk) (st : St) (n : Nat) (c : α → List GV) (s : Sl α) : lenV h st (.g (s.g n c)) = some s.l.length := by cases s <;> simp [lenV, Sl.g, Sl.l]
@[simp] theorem viewN_Sl {α : Type} (h : List Blk) (st : St) (n : Nat) (c : α → List GV) (s : Sl α) : viewN h st n (.g (s.g n c)) = some (s.l.map c) := by cases s <;> simp [viewN, Sl.g, Sl.l]
@[simp] theorem Sl.l_nil {α : Type} : (Sl.nil : Sl α).l = [] := rfl
@[simp] theorem Sl.l_of {α : Type} (l : List α) : (Sl.of l).l = l := rfl

theorem Sl.both {α : Type} {a b : Sl α} (h : a.l = b.l) : ∃ l, (a = .of l ∧ b = .of l) ∨ (a = .nil ∧ b = .nil ∧ l = []) ∨ (a = .nil ∧ b = .of [] ∧ l = []) ∨ (a = .of [] ∧ b = .nil ∧ l = []) := by
  cases a with
  | nil => cases b with
    | nil => exact ⟨[], .inr (.inl ⟨rfl, rfl, rfl⟩)⟩
    | of l => simp at h; subst h; exact ⟨[], .inr (.inr (.inl ⟨rfl, rfl, rfl⟩))⟩
  | of l => cases b with
    | nil => simp at h; subst h; exact ⟨[], .inr (.inr (.inr ⟨rfl, rfl, rfl⟩))⟩
    | of l' => simp at h; subst h; exact ⟨l, .inl ⟨rfl, rfl⟩⟩

theorem list_inv {α : Type} {C : α → List GV} {W : α → Prop} {Q : List GV → Prop} (he : ∀ gs, Q gs → ∃ x, W x ∧ gs = C x) : ∀ (els : List (List GV)), (∀ el ∈ els, Q el) → ∃ l : List α, els = l.map C ∧ ∀ x ∈ l, W x
  | [], _ => ⟨[], rfl, fun x hx => by cases hx⟩
  | el :: els, h => by
    obtain ⟨x, k1, rfl⟩ := he el (h el (by simp))
    obtain ⟨l, rfl, k2⟩ := list_inv he els (fun el hel => h el (by simp [hel]))
    exact ⟨x :: l, rfl, fun y hy => by rcases List.mem_cons.1 hy with rfl | hy; exact k1; exact k2 y hy⟩

theorem HasTy.sl_inv {α : Type} {C : α → List GV} {W : α → Prop} {n : Nat} {e : GTy} (he : ∀ gs, HasTy e gs → ∃ x, W x ∧ gs = C x) {gs : List GV} (h : HasTy (.sl n e) gs) :
    ∃ s : Sl α, (∀ x ∈ s.l, W x) ∧ s.l.length ≤ 9223372036854775807 ∧ gs = [s.g n C] := by
  rcases h with rfl | ⟨els, rfl, hl, hel⟩
  · exact ⟨.nil, fun x hx => (by simp at hx), by simp, rfl⟩
  · obtain ⟨l, rfl, k⟩ := list_inv he els hel
    exact ⟨.of l, k, by simpa using hl, rfl⟩

def I64 (n : Int) : Prop := -9223372036854775808 ≤ n ∧ n ≤ 9223372036854775807

end Go.AM
end
section
set_option linter.unusedSimpArgs false
set_option linter.unusedVariables false
namespace Go.AM
open Go Go.RowKit Go.ChangeShapes Go.WideShapes

/-- The place of a variable of a package: nobody's. -/
def L00 : Nat → Lc := fun _ => ⟨none, 1, 0, false⟩
def frontB : Blk → Bool
  | .fro 0 1 [] | .gsen .. => true
  | _ => false

theorem front_dead {H0 : List Blk} (hf : H0.all frontB = true) (b : Nat) : ¬ Own H0 L00 b := by
  rintro ⟨id, k, h1, h2, h3⟩
  cases h3

theorem front_hr {W : World} {H0 : List Blk} (hf : H0.all frontB = true) (hs : ∀ (id : Nat) t s, H0[id]? = some (.gsen t s) → ∃ c, GR (envOf W H0 L00) (.sen id t s) c) : HR W H0 L00 := by
  refine ⟨fun id k hk => ?_, fun i j b x y hx hy lx ly hb => by cases hb⟩
  have hk' := List.all_eq_true.1 hf k (List.mem_of_getElem? hk)
  unfold frontB at hk'
  split at hk'
  · exact ⟨rfl, Nat.one_pos, rfl, rfl⟩
  · exact hs _ _ _ hk
  · cases hk'

theorem front_sen {W : World} {H0 : List Blk} (hf : H0.all frontB = true) (g : Nat) (t : TypeId) (s : List UInt8) {a : Addr} {sb : ByteArray} {C : Array Value} {T : TypeId} (hc : W.cell? ⟨g, 0, none⟩ = some (.iface t (.pointer (some a))))
    (hb : W.heap[a.block]? = some (.cells C T (0, 0))) (hs : W.cell? a = some (.string sb)) (hsb : sb.data.toList = s) : GR (envOf W H0 L00) (.sen g t s) (.iface t (.pointer (some a))) := by
  have lt : ∀ (b : Addr) v, W.cell? b = some v → b.block < W.heap.size := fun b v h => by
    rcases Nat.lt_or_ge b.block W.heap.size with h' | h'
    · exact h'
    · simp [World.cell?, Array.getElem?_eq_none h'] at h
  refine .sen g t s (lt ⟨g, 0, none⟩ _ hc) (front_dead hf _) hc (lt a _ hs) (front_dead hf _) hb ?_
  show W.cell? a = _
  rw [hs, ← hsb]

section
variable {H : Type} {enc : TypeId × Value → H} {P : Program} {W : World} {spare : Nat → Bool} {held : Bool}
/-- What a law's row asks of the call. -/
theorem law_callsH {T : Tab} (hT : TabOk P T) {f : FuncId} {F : IFunc} (hF : T.T f = some F) {d b0 : Nat} {ts : List TypeId} {args : Array Value} {ds : List (DataW H)} {ps : List MemPlace} {H0 : List Blk} (hf : H0.all frontB = true)
    (hr : HR W H0 L00) (hd : (ts.all (dataT P d)) = true) (hA : DataW.TrodAll enc P W 0 spare held ts args.toList ds ps) (hval : ∀ (j : Nat) t v, ts[j]? = some t → args[j]? = some v → Value.okWide P W .any b0 t v)
    (spec : ∀ gss, TypAll P d ts gss → EvF T f (avs P ts gss) H0 = some ⟨.g (.bool true), [], []⟩) :
    Calls P f args W fun e W' => e = .returned (.bool true) ∧ Below W.heap.size W W' := by
  obtain ⟨gss, h1, h2, h3⟩ := open_args (L := L00) ts args.toList ds ps hd hA (fun j t v ht hv => hval j t v ht (by simpa using hv))
  have he : Ext (envOf W [] L00) (envOf W H0 L00) := ⟨rfl, rfl, rfl, Nat.le_refl _, fun b hb hO => ⟨rfl, front_dead hf b⟩, Nat.zero_le _, fun id hid => absurd hid (Nat.not_lt_zero _), fun id hid => absurd hid (Nat.not_lt_zero _)⟩
  have hs := (EvF_ok hT f _ H0 _ (spec gss h1)).1 W _ args hr ⟨by simpa using h2, fun j a v ha hv => (h3 j a v ha (by simpa using hv)).mono he⟩
  obtain ⟨esc, hints, hc⟩ := hT.fn f F hF
  rcases hs with ⟨_, hs⟩ | ⟨_, v, w', hs, _⟩
  · refine hs.mono fun e w' ⟨v, he, L', k1, k2, k3, k4⟩ => ?_
    have := k1.inv_g.inv_bool
    subst this
    exact ⟨he, k3.os, k3.tape, k3.output, k3.size, fun k hk => (k3.keep k hk (front_dead hf k)).1⟩
  · rw [enter_of_cFunc hc] at hs
    cases hs
end

theorem spec_ofH {T : Tab} {P : Program} {f : FuncId} {d : Nat} {ts : List TypeId} {tys : List (Bool × GTy)} {H0 : List Blk} (h : descrs P d ts = some tys)
    (spec : ∀ gss, HasAll tys gss → EvF T f (avsG tys gss) H0 = some ⟨.g (.bool true), [], []⟩) :
    ∀ gss, TypAll P d ts gss → EvF T f (avs P ts gss) H0 = some ⟨.g (.bool true), [], []⟩ := fun gss hg => by
  obtain ⟨k1, k2⟩ := all_ok ts tys gss h hg
  rw [k2]
  exact spec gss k1

end Go.AM
end
section
set_option linter.unusedSimpArgs false
set_option linter.unusedVariables false
set_option linter.constructorNameAsVariable false
namespace Go.AM
open Go

abbrev Bs := List UInt8
def S64 (s : Bs) : Prop := s.length ≤ 9223372036854775807

theorem ti_inv {gs : List GV} (h : HasTy (.i .i64) gs) : ∃ n, I64 n ∧ gs = [.int .i64 n] := by
  obtain ⟨n, rfl, h1, h2⟩ := h; exact ⟨n, ⟨h1, h2⟩, rfl⟩
theorem tu_inv {gs : List GV} (h : HasTy (.i .u64) gs) : ∃ n, (0 ≤ n ∧ n ≤ 18446744073709551615) ∧ gs = [.int .u64 n] := by
  obtain ⟨n, rfl, h1, h2⟩ := h; exact ⟨n, ⟨h1, h2⟩, rfl⟩
theorem ts_inv {gs : List GV} (h : HasTy .s gs) : ∃ n, S64 n ∧ gs = [.str n] := by
  obtain ⟨n, rfl, h1⟩ := h; exact ⟨n, h1, rfl⟩
theorem tb_inv {gs : List GV} (h : HasTy .b gs) : ∃ n : Bool, True ∧ gs = [.bool n] := by
  obtain ⟨n, rfl⟩ := h; exact ⟨n, trivial, rfl⟩

structure KV where
  key : Bs
  value : Bs
  create : Int
  mod : Int
  version : Int
  lease : Int
  deriving DecidableEq, Inhabited
def KV.c (x : KV) : List GV := [.str x.key, .str x.value, .int .i64 x.create, .int .i64 x.mod, .int .i64 x.version, .int .i64 x.lease]
def KV.wf (x : KV) : Prop := S64 x.key ∧ S64 x.value ∧ I64 x.create ∧ I64 x.mod ∧ I64 x.version ∧ I64 x.lease
abbrev tKV : GTy := .p .s (.p .s (.p (.i .i64) (.p (.i .i64) (.p (.i .i64) (.p (.i .i64) .u)))))
theorem KV.inv {gs : List GV} (h : HasTy tKV gs) : ∃ x : KV, x.wf ∧ gs = x.c := by
  obtain ⟨_, _, rfl, ⟨a, rfl, ha⟩, _, _, rfl, ⟨b, rfl, hb⟩, _, _, rfl, ⟨c, rfl, hc⟩, _, _, rfl, ⟨d, rfl, hd⟩, _, _, rfl, ⟨e, rfl, he⟩, _, _, rfl, ⟨f, rfl, hf⟩, rfl⟩ := h
  exact ⟨⟨a, b, c, d, e, f⟩, ⟨ha, hb, hc, hd, he, hf⟩, rfl⟩

structure Ev where
  rev : Int
  gone : Bool
  kv : KV
  deriving DecidableEq, Inhabited
def Ev.c (x : Ev) : List GV := [.int .i64 x.rev, .bool x.gone, .str x.kv.key, .str x.kv.value, .int .i64 x.kv.create, .int .i64 x.kv.mod, .int .i64 x.kv.version, .int .i64 x.kv.lease]
def Ev.wf (x : Ev) : Prop := I64 x.rev ∧ x.kv.wf
abbrev tEv : GTy := .p (.i .i64) (.p .b (.p tKV .u))
theorem Ev.inv {gs : List GV} (h : HasTy tEv gs) : ∃ x : Ev, x.wf ∧ gs = x.c := by
  obtain ⟨_, _, rfl, ⟨a, rfl, ha⟩, _, _, rfl, ⟨b, rfl⟩, _, _, rfl, hc, rfl⟩ := h
  obtain ⟨x, hx, rfl⟩ := KV.inv hc
  exact ⟨⟨a, b, x⟩, ⟨ha, hx⟩, by simp [Ev.c, KV.c]⟩

structure Cmp where
  key : Bs
  what : Int
  how : Int
  n : Int
  value : Bs
  deriving DecidableEq, Inhabited
def Cmp.c (x : Cmp) : List GV := [.str x.key, .int .i64 x.what, .int .i64 x.how, .int .i64 x.n, .str x.value]
def Cmp.wf (x : Cmp) : Prop := S64 x.key ∧ I64 x.what ∧ I64 x.how ∧ I64 x.n ∧ S64 x.value
abbrev tCmp : GTy := .p .s (.p (.i .i64) (.p (.i .i64) (.p (.i .i64) (.p .s .u))))
theorem Cmp.inv {gs : List GV} (h : HasTy tCmp gs) : ∃ x : Cmp, x.wf ∧ gs = x.c := by
  obtain ⟨_, _, rfl, ⟨a, rfl, ha⟩, _, _, rfl, ⟨b, rfl, hb⟩, _, _, rfl, ⟨c, rfl, hc⟩, _, _, rfl, ⟨d, rfl, hd⟩, _, _, rfl, ⟨e, rfl, he⟩, rfl⟩ := h
  exact ⟨⟨a, b, c, d, e⟩, ⟨ha, hb, hc, hd, he⟩, rfl⟩

structure Mut where
  gone : Bool
  key : Bs
  value : Bs
  lease : Int
  deriving DecidableEq, Inhabited
def Mut.c (x : Mut) : List GV := [.bool x.gone, .str x.key, .str x.value, .int .i64 x.lease]
def Mut.wf (x : Mut) : Prop := S64 x.key ∧ S64 x.value ∧ I64 x.lease
abbrev tMut : GTy := .p .b (.p .s (.p .s (.p (.i .i64) .u)))
theorem Mut.inv {gs : List GV} (h : HasTy tMut gs) : ∃ x : Mut, x.wf ∧ gs = x.c := by
  obtain ⟨_, _, rfl, ⟨a, rfl⟩, _, _, rfl, ⟨b, rfl, hb⟩, _, _, rfl, ⟨c, rfl, hc⟩, _, _, rfl, ⟨d, rfl, hd⟩, rfl⟩ := h
  exact ⟨⟨a, b, c, d⟩, ⟨hb, hc, hd⟩, rfl⟩

abbrev KVs := Sl KV
abbrev Evs := Sl Ev
abbrev KVs.g (s : KVs) : GV := Sl.g 6 KV.c s
abbrev Evs.g (s : Evs) : GV := Sl.g 8 Ev.c s
abbrev Cmps.g (s : Sl Cmp) : GV := Sl.g 5 Cmp.c s
abbrev Muts.g (s : Sl Mut) : GV := Sl.g 4 Mut.c s

structure Reply where
  code : Int
  who : Int
  seq : Int
  rev : Int
  lease : Int
  ttl : Int
  yes : Bool
  kvs : KVs
  events : Evs
def Reply.c (x : Reply) : List GV := [.int .i64 x.code, .int .i64 x.who, .int .i64 x.seq, .int .i64 x.rev, .int .i64 x.lease, .int .i64 x.ttl, .bool x.yes, x.kvs.g, x.events.g]
def Reply.wf (x : Reply) : Prop := I64 x.code ∧ I64 x.who ∧ I64 x.seq ∧ I64 x.rev ∧ I64 x.lease ∧ I64 x.ttl ∧ ((∀ y ∈ x.kvs.l, y.wf) ∧ x.kvs.l.length ≤ 9223372036854775807) ∧ ((∀ y ∈ x.events.l, y.wf) ∧ x.events.l.length ≤ 9223372036854775807)
abbrev tReply : GTy := .p (.i .i64) (.p (.i .i64) (.p (.i .i64) (.p (.i .i64) (.p (.i .i64) (.p (.i .i64) (.p .b (.p (.sl 6 tKV) (.p (.sl 8 tEv) .u))))))))
theorem Reply.inv {gs : List GV} (h : HasTy tReply gs) : ∃ x : Reply, x.wf ∧ gs = x.c := by
  obtain ⟨_, _, rfl, ⟨a, rfl, ha⟩, _, _, rfl, ⟨b, rfl, hb⟩, _, _, rfl, ⟨c, rfl, hc⟩, _, _, rfl, ⟨d, rfl, hd⟩, _, _, rfl, ⟨e, rfl, he⟩, _, _, rfl, ⟨f, rfl, hf⟩, _, _, rfl, ⟨y, rfl⟩, _, _, rfl, hk, _, _, rfl, hv, rfl⟩ := h
  obtain ⟨k, k1, k2, rfl⟩ := hk.sl_inv (fun _ => KV.inv)
  obtain ⟨v, v1, v2, rfl⟩ := hv.sl_inv (fun _ => Ev.inv)
  exact ⟨⟨a, b, c, d, e, f, y, k, v⟩, ⟨ha, hb, hc, hd, he, hf, ⟨k1, k2⟩, ⟨v1, v2⟩⟩, rfl⟩

structure Req where
  kind : Int
  who : Int
  seq : Int
  once : Bool
  key : Bs
  value : Bs
  lease : Int
  rev : Int
  ttl : Int
  token : Int
  iff : Sl Cmp
  thn : Sl Mut
  els : Sl Mut
def Req.c (x : Req) : List GV := [.int .i64 x.kind, .int .i64 x.who, .int .i64 x.seq, .bool x.once, .str x.key, .str x.value, .int .i64 x.lease, .int .i64 x.rev, .int .i64 x.ttl, .int .i64 x.token, Cmps.g x.iff, Muts.g x.thn, Muts.g x.els]
def Req.wf (x : Req) : Prop := I64 x.kind ∧ I64 x.who ∧ I64 x.seq ∧ S64 x.key ∧ S64 x.value ∧ I64 x.lease ∧ I64 x.rev ∧ I64 x.ttl ∧ I64 x.token ∧ ((∀ y ∈ x.iff.l, y.wf) ∧ x.iff.l.length ≤ 9223372036854775807) ∧ ((∀ y ∈ x.thn.l, y.wf) ∧ x.thn.l.length ≤ 9223372036854775807) ∧ ((∀ y ∈ x.els.l, y.wf) ∧ x.els.l.length ≤ 9223372036854775807)
abbrev tTxn : GTy := .p (.sl 5 tCmp) (.p (.sl 4 tMut) (.p (.sl 4 tMut) .u))
abbrev tReq : GTy := .p (.i .i64) (.p (.i .i64) (.p (.i .i64) (.p .b (.p .s (.p .s (.p (.i .i64) (.p (.i .i64) (.p (.i .i64) (.p (.i .i64) (.p tTxn .u))))))))))
theorem Req.inv {gs : List GV} (h : HasTy tReq gs) : ∃ x : Req, x.wf ∧ gs = x.c := by
  obtain ⟨_, _, rfl, ⟨a, rfl, ha⟩, _, _, rfl, ⟨b, rfl, hb⟩, _, _, rfl, ⟨c, rfl, hc⟩, _, _, rfl, ⟨d, rfl⟩, _, _, rfl, ⟨e, rfl, he⟩, _, _, rfl, ⟨f, rfl, hf⟩, _, _, rfl, ⟨i, rfl, hi⟩, _, _, rfl, ⟨j, rfl, hj⟩, _, _, rfl, ⟨k, rfl, hk⟩, _, _, rfl, ⟨l, rfl, hl⟩, _, _, rfl, ⟨_, _, rfl, h1, _, _, rfl, h2, _, _, rfl, h3, rfl⟩, rfl⟩ := h
  obtain ⟨p, p1, p2, rfl⟩ := h1.sl_inv (fun _ => Cmp.inv)
  obtain ⟨q, q1, q2, rfl⟩ := h2.sl_inv (fun _ => Mut.inv)
  obtain ⟨r, r1, r2, rfl⟩ := h3.sl_inv (fun _ => Mut.inv)
  exact ⟨⟨a, b, c, d, e, f, i, j, k, l, p, q, r⟩, ⟨ha, hb, hc, he, hf, hi, hj, hk, hl, ⟨p1, p2⟩, ⟨q1, q2⟩, ⟨r1, r2⟩⟩, rfl⟩

structure Sess where
  lease : Int
  ttl : Int
  till : Int
  keep : Int
  deriving DecidableEq, Inhabited
def Sess.c (x : Sess) : List GV := [.int .i64 x.lease, .int .i64 x.ttl, .int .i64 x.till, .int .i64 x.keep]
def Sess.wf (x : Sess) : Prop := I64 x.lease ∧ I64 x.ttl ∧ I64 x.till ∧ I64 x.keep
abbrev tSess : GTy := .p (.i .i64) (.p (.i .i64) (.p (.i .i64) (.p (.i .i64) .u)))
theorem Sess.inv {gs : List GV} (h : HasTy tSess gs) : ∃ x : Sess, x.wf ∧ gs = x.c := by
  obtain ⟨_, _, rfl, ⟨a, rfl, ha⟩, _, _, rfl, ⟨b, rfl, hb⟩, _, _, rfl, ⟨c, rfl, hc⟩, _, _, rfl, ⟨d, rfl, hd⟩, rfl⟩ := h
  exact ⟨⟨a, b, c, d⟩, ⟨ha, hb, hc, hd⟩, rfl⟩

def Ints.c (n : Int) : List GV := [.int .i64 n]
abbrev Ints.g (s : Sl Int) : GV := Sl.g 1 Ints.c s
theorem tis_inv {gs : List GV} (h : HasTy (.sl 1 (.i .i64)) gs) : ∃ s : Sl Int, ((∀ x ∈ s.l, I64 x) ∧ s.l.length ≤ 9223372036854775807) ∧ gs = [Ints.g s] := by
  obtain ⟨s, h1, h2, rfl⟩ := h.sl_inv (fun _ => ti_inv)
  exact ⟨s, ⟨h1, h2⟩, rfl⟩

structure Lease where
  id : Int
  ttl : Int
  till : Int
  deriving DecidableEq, Inhabited
def Lease.c (x : Lease) : List GV := [.int .i64 x.id, .int .i64 x.ttl, .int .i64 x.till]
def Lease.wf (x : Lease) : Prop := I64 x.id ∧ I64 x.ttl ∧ I64 x.till
abbrev tLease : GTy := .p (.i .i64) (.p (.i .i64) (.p (.i .i64) .u))
theorem Lease.inv {gs : List GV} (h : HasTy tLease gs) : ∃ x : Lease, x.wf ∧ gs = x.c := by
  obtain ⟨_, _, rfl, ⟨a, rfl, ha⟩, _, _, rfl, ⟨b, rfl, hb⟩, _, _, rfl, ⟨c, rfl, hc⟩, rfl⟩ := h
  exact ⟨⟨a, b, c⟩, ⟨ha, hb, hc⟩, rfl⟩
abbrev LeaseL.g (s : Sl Lease) : GV := Sl.g 3 Lease.c s
structure Leases where
  next : Int
  l : Sl Lease
def Leases.c (x : Leases) : List GV := [.int .i64 x.next, LeaseL.g x.l]
def Leases.wf (x : Leases) : Prop := I64 x.next ∧ (∀ y ∈ x.l.l, y.wf) ∧ x.l.l.length ≤ 9223372036854775807
abbrev tLeases : GTy := .p (.i .i64) (.p (.sl 3 tLease) .u)
theorem Leases.inv {gs : List GV} (h : HasTy tLeases gs) : ∃ x : Leases, x.wf ∧ gs = x.c := by
  obtain ⟨_, _, rfl, ⟨a, rfl, ha⟩, _, _, rfl, hk, rfl⟩ := h
  obtain ⟨k, k1, k2, rfl⟩ := hk.sl_inv (fun _ => Lease.inv)
  exact ⟨⟨a, k⟩, ⟨ha, k1, k2⟩, rfl⟩
theorem KVs.inv {gs : List GV} (h : HasTy (.sl 6 tKV) gs) : ∃ s : KVs, ((∀ y ∈ s.l, y.wf) ∧ s.l.length ≤ 9223372036854775807) ∧ gs = [KVs.g s] := by
  obtain ⟨k, k1, k2, rfl⟩ := h.sl_inv (fun _ => KV.inv)
  exact ⟨k, ⟨k1, k2⟩, rfl⟩
/-- Two whole numbers. -/
def I2.c (x : Int × Int) : List GV := [.int .i64 x.1, .int .i64 x.2]
theorem ti2_inv {gs : List GV} (h : HasTy (.p (.i .i64) (.p (.i .i64) .u)) gs) : ∃ x : Int × Int, (I64 x.1 ∧ I64 x.2) ∧ gs = I2.c x := by
  obtain ⟨_, _, rfl, ⟨a, rfl, ha⟩, _, _, rfl, ⟨b, rfl, hb⟩, rfl⟩ := h
  exact ⟨(a, b), ⟨ha, hb⟩, rfl⟩

structure Call where
  on : Bool
  req : Req
  sent : Int
  next : Int
  tries : Int
def Call.c (x : Call) : List GV := .bool x.on :: (x.req.c ++ [.int .i64 x.sent, .int .i64 x.next, .int .i64 x.tries])
def Call.wf (x : Call) : Prop := x.req.wf ∧ I64 x.sent ∧ I64 x.next ∧ I64 x.tries
abbrev tCall : GTy := .p .b (.p tReq (.p (.i .i64) (.p (.i .i64) (.p (.i .i64) .u))))
theorem Call.inv {gs : List GV} (h : HasTy tCall gs) : ∃ x : Call, x.wf ∧ gs = x.c := by
  obtain ⟨_, _, rfl, ⟨a, rfl⟩, _, _, rfl, hr, _, _, rfl, ⟨b, rfl, hb⟩, _, _, rfl, ⟨c, rfl, hc⟩, _, _, rfl, ⟨d, rfl, hd⟩, rfl⟩ := h
  obtain ⟨r, hw, rfl⟩ := Req.inv hr
  exact ⟨⟨a, r, b, c, d⟩, ⟨hw, hb, hc, hd⟩, by simp [Call.c]⟩

def A (gs : List GV) : AV := .agg (gs.map .g)
abbrev I (n : Int) : AV := .g (.int .i64 n)
abbrev U (n : Int) : AV := .g (.int .u64 n)
abbrev B (b : Bool) : AV := .g (.bool b)
abbrev T (s : Bs) : AV := .g (.str s)

end Go.AM
end
section
set_option linter.unusedSimpArgs false
set_option linter.unusedVariables false
namespace Go.AM
open Go

theorem loopE_kp (E : FnS) (h : List Blk) (c : IC) (lv : List Nat) (s s' : St) (hs : kpN lv (evCode E h c s) = some (.normal, s')) : loopE E h c lv s = loopE E h c lv s' := by
  rw [loopE_eq]
  rcases hq : evCode E h c s with _ | ⟨e, t⟩
  · rw [hq] at hs; cases hs
  · rw [hq] at hs
    cases e
    · simp only [kpN_normal, Option.some.injEq, Prod.mk.injEq, true_and] at hs
      rw [sk_normal, hs]
    · simp only [kpN_exit, Option.some.injEq, Prod.mk.injEq] at hs
      cases hs.1
    · simp only [kpN_ret, Option.some.injEq, Prod.mk.injEq] at hs
      cases hs.1

theorem loopE_out (E : FnS) (h : List Blk) (c : IC) (lv : List Nat) (s : St) (r : Ex × St) (hr : r.1 ≠ .normal) (hs : kpN lv (evCode E h c s) = some r) : loopE E h c lv s = some r := by
  rw [loopE_eq]
  rcases hq : evCode E h c s with _ | ⟨e, t⟩
  · rw [hq] at hs; cases hs
  · rw [hq] at hs
    cases e
    · simp only [kpN_normal, Option.some.injEq] at hs
      subst hs
      exact absurd rfl hr
    · rw [sk_exit]; exact hs
    · rw [sk_ret]; exact hs

/-- Do all things of a list? (A word that simp leaves alone.) -/
def allP {α : Type} (p : α → Bool) (l : List α) : Bool := l.all p
@[simp] theorem allP_nil {α : Type} (p : α → Bool) : allP p [] = true := rfl
theorem allP_cons {α : Type} (p : α → Bool) (x : α) (l : List α) : allP p (x :: l) = (p x && allP p l) := rfl
theorem allP_iff {α : Type} {p : α → Bool} {l : List α} : allP p l = true ↔ ∀ x ∈ l, p x = true := by simp [allP]

section
variable {E : FnS} {h : List Blk} {c : IC} {lv : List Nat} {α : Type}

/-- A loop with so many rounds to come, by a measure: its state is told by a number. -/
theorem loop_all {l : List α} (p : α → Bool) (S : Nat → St) (fin bad : Ex × St) (hfin : fin.1 ≠ .normal) (hbad : bad.1 ≠ .normal)
    (hstep : ∀ k x (hk : k < l.length), l[k]? = some x → l[k] = x → kpN lv (evCode E h c (S k)) = if p x = true then some (.normal, S (k + 1)) else some bad)
    (hend : kpN lv (evCode E h c (S l.length)) = some fin) (d : Nat) : ∀ k, l.length - k = d → k ≤ l.length → loopE E h c lv (S k) = some (if allP p (l.drop k) = true then fin else bad) := by
  induction d with
  | zero =>
    intro k hd hk
    have : k = l.length := by omega
    subst this
    rw [loopE_out E h c lv _ fin hfin hend]
    simp
  | succ d ih =>
    intro k hd hk
    have hlt : k < l.length := by omega
    have h1 := hstep k l[k] hlt (List.getElem?_eq_getElem hlt) rfl
    rw [List.drop_eq_getElem_cons hlt]
    by_cases hp : p l[k] = true
    · rw [if_pos hp] at h1
      rw [loopE_kp E h c lv _ _ h1, ih (k + 1) (by omega) (by omega), allP_cons, hp, Bool.true_and]
    · rw [if_neg hp] at h1
      rw [loopE_out E h c lv _ bad hbad h1, allP_cons, Bool.eq_false_iff.2 hp, Bool.false_and]
      simp

theorem loop_all0 {l : List α} (p : α → Bool) (S : Nat → St) (fin bad : Ex × St) (hfin : fin.1 ≠ .normal) (hbad : bad.1 ≠ .normal)
    (hstep : ∀ k x (hk : k < l.length), l[k]? = some x → l[k] = x → kpN lv (evCode E h c (S k)) = if p x = true then some (.normal, S (k + 1)) else some bad)
    (hend : kpN lv (evCode E h c (S l.length)) = some fin) : loopE E h c lv (S 0) = some (if allP p l = true then fin else bad) := by
  have := loop_all p S fin bad hfin hbad hstep hend l.length 0 (by omega) (by omega)
  simpa using this

/-- What a walk through a list comes to: the rest's state, or how it ended. -/
def runL {β : Type} (step : Nat → α → β → β ⊕ (Ex × St)) : Nat → List α → β → β ⊕ (Ex × St)
  | _, [], b => .inl b
  | k, x :: l, b => match step k x b with
    | .inl b' => runL step (k + 1) l b'
    | .inr r => .inr r

/-- How a walk ends. -/
def endL {β : Type} (fin : β → Ex × St) : β ⊕ (Ex × St) → Ex × St
  | .inl b => fin b
  | .inr r => r

theorem loop_run {β : Type} {l : List α} (Inv : Nat → β → Prop) (step : Nat → α → β → β ⊕ (Ex × St)) (S : Nat → β → St) (fin : β → Ex × St) (hfin : ∀ b, (fin b).1 ≠ .normal)
    (hstep : ∀ k x b (hk : k < l.length), l[k]? = some x → l[k] = x → Inv k b → match step k x b with
      | .inl b' => Inv (k + 1) b' ∧ kpN lv (evCode E h c (S k b)) = some (.normal, S (k + 1) b')
      | .inr r => r.1 ≠ .normal ∧ kpN lv (evCode E h c (S k b)) = some r)
    (hend : ∀ b, Inv l.length b → kpN lv (evCode E h c (S l.length b)) = some (fin b)) (d : Nat) : ∀ k b, l.length - k = d → k ≤ l.length → Inv k b →
      loopE E h c lv (S k b) = some (endL fin (runL step k (l.drop k) b)) := by
  induction d with
  | zero =>
    intro k b hd hk hi
    have : k = l.length := by omega
    subst this
    rw [loopE_out E h c lv _ _ (hfin b) (hend b hi)]
    simp [runL, endL]
  | succ d ih =>
    intro k b hd hk hi
    have hlt : k < l.length := by omega
    have h1 := hstep k l[k] b hlt (List.getElem?_eq_getElem hlt) rfl hi
    rw [List.drop_eq_getElem_cons hlt]
    simp only [runL]
    split at h1
    · rename_i b' hb
      rw [loopE_kp E h c lv _ _ h1.2, ih (k + 1) b' (by omega) (by omega) h1.1]
    · rename_i r hb
      rw [loopE_out E h c lv _ r h1.1 h1.2]; rfl

/-- What a walk comes to. -/
def runG {β γ : Type} (step : Nat → α → β → β ⊕ γ) : Nat → List α → β → β ⊕ γ
  | _, [], b => .inl b
  | k, x :: l, b => match step k x b with
    | .inl b' => runG step (k + 1) l b'
    | .inr r => .inr r

/-- How it ends, blocks being left behind that nobody asks for. -/
def endJ {β γ : Type} (fin : β → List Blk → Ex × St) (out : γ → List Blk → Ex × St) (o : List Blk) : β ⊕ γ → Ex × St
  | .inl b => fin b o
  | .inr g => out g o

/-- A walk that leaves blocks behind. -/
theorem loop_runJ {β γ : Type} {l : List α} (Inv : Nat → β → Prop) (step : Nat → α → β → β ⊕ γ) (S : Nat → β → List Blk → St) (fin : β → List Blk → Ex × St) (out : γ → List Blk → Ex × St)
    (hfin : ∀ b o, (fin b o).1 ≠ .normal) (hout : ∀ g o, (out g o).1 ≠ .normal)
    (hstep : ∀ k x b o (hk : k < l.length), l[k]? = some x → l[k] = x → Inv k b → match step k x b with
      | .inl b' => Inv (k + 1) b' ∧ ∃ o', kpN lv (evCode E h c (S k b o)) = some (.normal, S (k + 1) b' o')
      | .inr g => ∃ o', kpN lv (evCode E h c (S k b o)) = some (out g o'))
    (hend : ∀ b o, Inv l.length b → kpN lv (evCode E h c (S l.length b o)) = some (fin b o)) (b : β) (o : List Blk) (hb : Inv 0 b) :
      ∃ o', loopE E h c lv (S 0 b o) = some (endJ fin out o' (runG step 0 l b)) := by
  have key : ∀ d k b o, l.length - k = d → k ≤ l.length → Inv k b → ∃ o', loopE E h c lv (S k b o) = some (endJ fin out o' (runG step k (l.drop k) b)) := by
    intro d
    induction d with
    | zero =>
      intro k b o hd hk hi
      have : k = l.length := by omega
      subst this
      refine ⟨o, ?_⟩
      rw [loopE_out E h c lv _ _ (hfin b o) (hend b o hi)]
      simp [runG, endJ]
    | succ d ih =>
      intro k b o hd hk hi
      have hlt : k < l.length := by omega
      have h1 := hstep k l[k] b o hlt (List.getElem?_eq_getElem hlt) rfl hi
      rw [List.drop_eq_getElem_cons hlt]
      simp only [runG]
      split at h1
      · rename_i b' hb'
        obtain ⟨h2, o', h3⟩ := h1
        obtain ⟨o2, h4⟩ := ih (k + 1) b' o' (by omega) (by omega) h2
        exact ⟨o2, by rw [loopE_kp E h c lv _ _ h3, h4]⟩
      · rename_i g hg
        obtain ⟨o', h3⟩ := h1
        exact ⟨o', by rw [loopE_out E h c lv _ _ (hout g o') h3]; rfl⟩
  have := key l.length 0 b o (by omega) (by omega) hb
  simpa using this

/-- A walk that goes to the end: what is kept goes on by each thing. -/
theorem loop_fold {β : Type} {l : List α} (Inv : Nat → β → Prop) (f : β → α → β) (S : Nat → β → St) (fin : β → Ex × St) (hfin : ∀ b, (fin b).1 ≠ .normal)
    (hstep : ∀ k x b (hk : k < l.length), l[k]? = some x → l[k] = x → Inv k b → Inv (k + 1) (f b x) ∧ kpN lv (evCode E h c (S k b)) = some (.normal, S (k + 1) (f b x)))
    (hend : ∀ b, Inv l.length b → kpN lv (evCode E h c (S l.length b)) = some (fin b)) (b : β) (hb : Inv 0 b) :
      loopE E h c lv (S 0 b) = some (fin (l.foldl f b)) := by
  have := loop_run (l := l) (lv := lv) (c := c) (E := E) (h := h) Inv (fun k x b => .inl (f b x)) S fin hfin hstep hend l.length 0 b (by omega) (by omega) hb
  rw [this]
  have key : ∀ (l : List α) k b, runL (fun k x b => (.inl (f b x) : β ⊕ (Ex × St))) k l b = .inl (l.foldl f b) := by
    intro l
    induction l with
    | nil => intro k b; rfl
    | cons x l ih => intro k b; simp only [runL, ih, List.foldl_cons]
  simp [key, endL]

/-- A walk to the end, by the count alone. -/
theorem loop_cnt (n : Nat) (S : Nat → St) (fin : Ex × St) (hfin : fin.1 ≠ .normal) (hstep : ∀ k, k < n → kpN lv (evCode E h c (S k)) = some (.normal, S (k + 1)))
    (hend : kpN lv (evCode E h c (S n)) = some fin) : loopE E h c lv (S 0) = some fin := by
  have key : ∀ d k, n - k = d → k ≤ n → loopE E h c lv (S k) = some fin := by
    intro d
    induction d with
    | zero =>
      intro k hd hk
      have : k = n := by omega
      subst this
      exact loopE_out E h c lv _ fin hfin hend
    | succ d ih =>
      intro k hd hk
      rw [loopE_kp E h c lv _ _ (hstep k (by omega)), ih (k + 1) (by omega) (by omega)]
  exact key n 0 (by omega) (by omega)

/-- A loop by a number that falls. -/
theorem loop_meas {β : Type} (m : β → Nat) (Inv : β → Prop) (S : β → St) (res : β → Ex × St)
    (hstep : ∀ b, Inv b → (∃ b', m b' < m b ∧ Inv b' ∧ res b = res b' ∧ kpN lv (evCode E h c (S b)) = some (.normal, S b')) ∨ ((res b).1 ≠ .normal ∧ kpN lv (evCode E h c (S b)) = some (res b))) :
    ∀ (n : Nat) (b : β), m b ≤ n → Inv b → loopE E h c lv (S b) = some (res b) := by
  intro n
  induction n with
  | zero =>
    intro b hm hi
    rcases hstep b hi with ⟨b', h1, _⟩ | ⟨h1, h2⟩
    · omega
    · exact loopE_out E h c lv _ _ h1 h2
  | succ n ih =>
    intro b hm hi
    rcases hstep b hi with ⟨b', h1, h2, h3, h4⟩ | ⟨h1, h2⟩
    · rw [loopE_kp E h c lv _ _ h4, h3]
      exact ih b' (by omega) h2
    · exact loopE_out E h c lv _ _ h1 h2
end

theorem fills_nil (s : St) (cs : List AV) : fills s cs [] = some cs := by simp only [fills]
theorem fills_cons (s : St) (cs : List AV) (off n : Nat) (x : Opd) (r : List (Nat × Nat × Opd)) : fills s cs ((off, n, x) :: r) = ob (val s x) fun v => ob v.cellsO fun vs => ob (fillA cs off n vs) fun cs' => fills s cs' r := by
  simp only [fills]
  rcases val s x with _ | v
  · rfl
  · simp only [ob]
    rcases v.cellsO with _ | vs
    · rfl
    · simp only; cases fillA cs off n vs <;> rfl
attribute [simp] zres zplain fills_nil fills_cons fillA AV.cells foldV mx2 mn2

/-- A counter goes on. -/
theorem wrap_succ {k n : Nat} (h : k < n) (hn : n ≤ 9223372036854775807) : IntKind.i64.wrap ((k : Int) + 1) = (k : Int) + 1 := by rw [wrap_i64 (by omega) (by omega)]

end Go.AM
end
section
set_option linter.unusedSimpArgs false
set_option linter.unusedVariables false
namespace Go.AM
open Go

/-- Two ways that must come to the same. -/
noncomputable def alt2 (x y : Option St) : Option St :=
  match x, y with
  | some a, some b => open Classical in if a = b then some a else none
  | _, _ => none

theorem alt2_some (a : St) : alt2 (some a) (some a) = some a := by unfold alt2; simp
theorem alt2_same (x : Option St) : alt2 x x = x := by
  cases x with
  | none => rfl
  | some a => exact alt2_some a
theorem alt2_ite (c : Prop) [Decidable c] (a b x y : Option St) : alt2 (if c then a else b) (if c then x else y) = if c then alt2 a x else alt2 b y := by split <;> rfl

section
variable (E : FnS) (h : List Blk) (nb : Nat) (lv hd : List Nat) (s : St)
theorem evLead_take (o : AOper) (t : Tree) : evLead E h nb lv hd (.take o t) s = ob (evTake h s o) fun p => evLead E h nb lv (p.2 ++ hd) t p.1 := by
  simp only [evLead]; rcases evTake h s o with _ | ⟨a, b⟩ <;> rfl
theorem evLead_leaf : evLead E h nb lv hd .leaf s = if (hd.all (isLiveB (full h s))) = true then evTree E h nb lv hd .leaf s else none := by simp only [evLead]
theorem evLead_one (o : AOper) (t : Tree) : evLead E h nb lv hd (.one o t) s = if (hd.all (isLiveB (full h s))) = true then evTree E h nb lv hd (.one o t) s else none := by simp only [evLead]
theorem evLead_alt (o : AOper) (t r : Tree) : evLead E h nb lv hd (.alt o t r) s = if (hd.all (isLiveB (full h s))) = true then evTree E h nb lv hd (.alt o t r) s else none := by simp only [evLead]
theorem evLead_free (t : Tree) : evLead E h nb lv hd (.free t) s = if (hd.all (isLiveB (full h s))) = true then evTree E h nb lv [] t s else none := by simp only [evLead, evTree]
theorem evTree_leaf : evTree E h nb lv hd .leaf s = some (s.kp lv) := by simp only [evTree]
theorem evTree_free (t : Tree) : evTree E h nb lv hd (.free t) s = evTree E h nb lv [] t s := by simp only [evTree]
theorem evTree_take (o : AOper) (t : Tree) : evTree E h nb lv hd (.take o t) s = if ldOk s hd o = true then ob (evTake h s o) fun p => evTree E h nb lv hd t p.1 else none := by
  simp only [evTree]
  split
  · rename_i h1
    split at h1
    · rename_i hl; rw [if_pos hl, h1]; rfl
    · cases h1
  · rename_i h1
    split at h1
    · rename_i hl; rw [if_pos hl, h1]; rfl
    · rename_i hl; rw [if_neg hl]
theorem evTree_hold (ts : List Nat) (t : Tree) : evTree E h nb lv hd (.hold ts t) s = evTree E h nb lv hd t s := by simp only [evTree]
theorem evLead_hold (ts : List Nat) (t : Tree) : evLead E h nb lv hd (.hold ts t) s = evLead E h nb lv (holdIds s ts ++ hd) t s := by simp only [evLead]
def ptrCons : Option AV → List Nat → List Nat
  | some (.ptr id _), l => id :: l
  | _, l => l
theorem ptrCons_ptr (id o : Nat) (l : List Nat) : ptrCons (some (.ptr id o)) l = id :: l := rfl
theorem holdIds_nil : holdIds s [] = [] := by simp only [holdIds]
theorem holdIds_cons (t : Nat) (r : List Nat) : holdIds s (t :: r) = ptrCons (look s.t t) (holdIds s r) := by
  simp only [holdIds]
  rcases look s.t t with _ | v
  · rfl
  · cases v <;> rfl
def ldP : Option AV → List Nat → Bool
  | some (.ptr id _), hd => hd.contains id
  | _, _ => false
theorem ldP_ptr (id o : Nat) (hd : List Nat) : ldP (some (.ptr id o)) hd = hd.contains id := rfl
def ldQ (s : St) (hd : List Nat) (g : Option (Nat × Bool)) : AOp → Bool
  | .load _ _ p => gdOff s g || ldP (val s p) hd
  | .glob _ => gdOff s g
  | _ => true
theorem ldOk_mk (d : Option Nat) (g : Option (Nat × Bool)) (op : AOp) : ldOk s hd ⟨d, g, op⟩ = ldQ s hd g op := by
  cases op <;> first | rfl | (
    simp only [ldOk, ldQ]
    congr 1
    rename_i p
    rcases val s p with _ | v
    · rfl
    · cases v <;> rfl)
def offA (b : Bool) : AV → Bool
  | .g (.bool x) => x != b
  | .undef => true
  | _ => false
def offO (b : Bool) : Option AV → Bool
  | some v => offA b v
  | none => false
theorem gdOff_none : gdOff s none = false := rfl
theorem gdOff_some (g : Nat) (b : Bool) : gdOff s (some (g, b)) = offO b (look s.t g) := by
  simp only [gdOff]
  rcases look s.t g with _ | v
  · rfl
  · cases v <;> first | rfl | (rename_i q; cases q <;> rfl)
theorem offO_bool (b x : Bool) : offO b (some (.g (.bool x))) = (x != b) := rfl
theorem offO_undef (b : Bool) : offO b (some .undef) = true := rfl
theorem evTree_one (o : AOper) (t : Tree) : evTree E h nb lv hd (.one o t) s = ob (evOne E h nb hd s o) fun p => if (p.2.all fun i => !hd.contains i) = true then evTree E h nb lv hd t p.1 else none := by
  simp only [evTree]; rcases evOne E h nb hd s o with _ | ⟨a, b⟩ <;> rfl
theorem evTree_alt (o : AOper) (t r : Tree) : evTree E h nb lv hd (.alt o t r) s = ob (evOne E h nb hd s o) fun p => if (p.2.all fun i => !hd.contains i) = true then alt2 (evTree E h nb lv hd t p.1) (evTree E h nb lv hd r s) else none := by
  simp only [evTree]; rcases evOne E h nb hd s o with _ | ⟨a, b⟩
  · rfl
  · rfl
theorem evCall_fnh (f : FuncId) (xs : List AV) : evCall E h hd s (.g (.fn f)) xs = if (hd.all (isLiveB (full h s))) = true then fin h hd s (E f xs (hideB hd (full h s))) else none := by simp [evCall]
theorem evCall_fv (f : FuncId) (caps xs : List AV) : evCall E h hd s (.fv f caps) xs = if (hd.all (isLiveB (full h s))) = true then fin h hd s (E f (xs ++ caps) (hideB hd (full h s))) else none := by simp [evCall]
theorem evCall_bv (f : FuncId) (caps xs : List AV) : evCall E h hd s (.bv f caps) xs = if (hd.all (isLiveB (full h s))) = true then fin h hd s (E f (caps ++ xs) (hideB hd (full h s))) else none := by simp [evCall]
theorem pends_zero : pends s 0 = s := by simp [pends]
end
attribute [simp ↓] alt2_same alt2_ite
attribute [simp] evTree_hold evLead_hold ptrCons_ptr holdIds_nil holdIds_cons ldP_ptr ldQ ldOk_mk gdOff_none gdOff_some offO_bool offO_undef
attribute [simp] evLead_take evLead_leaf evLead_one evLead_alt evLead_free evTree_leaf evTree_free evTree_take evTree_one evTree_alt pends_zero
attribute [simp] evCall_fnh evCall_fv evCall_bv

@[simp] theorem blk_add (h : List Blk) (a b : Nat) : h.length + a + b = h.length + (a + b) := Nat.add_assoc _ _ _
@[simp] theorem getB_nil (t : List (Nat × AV)) (m : List (Nat × Blk)) (o : List Blk) (k : Nat) : getB [] ⟨t, m, o⟩ k = o[k]? := by simp [getB]
@[simp] theorem setB_nil (t : List (Nat × AV)) (m : List (Nat × Blk)) (o : List Blk) (k : Nat) (b : Blk) : setB [] ⟨t, m, o⟩ k b = ⟨t, m, o.set k b⟩ := by simp [setB]
/-! ### What a call wrote, and blocks of those that call -/
@[simp ↓] theorem fin_res (h : List Blk) (hd : List Nat) (s : St) (r : AV) (m : List (Nat × Blk)) (o : List Blk) :
    fin h hd s (some ⟨r, m, o⟩) = if (m.all fun p => !hd.contains p.1) = true then some (r, (setAll h s m).app o, m.map (·.1)) else none := rfl
@[simp] theorem setAll_nil (h : List Blk) (s : St) : setAll h s [] = s := by simp only [setAll]
@[simp] theorem setAll_cons (h : List Blk) (s : St) (i : Nat) (b : Blk) (r : List (Nat × Blk)) : setAll h s ((i, b) :: r) = setB h (setAll h s r) i b := by simp only [setAll]
@[simp] theorem app_mk (t : List (Nat × AV)) (m : List (Nat × Blk)) (o o' : List Blk) : St.app ⟨t, m, o⟩ o' = ⟨t, m, o ++ o'⟩ := rfl
def orB : Option Blk → Option Blk → Option Blk
  | some b, _ => some b
  | none, x => x
@[simp] theorem orB_some (b : Blk) (x : Option Blk) : orB (some b) x = some b := rfl
@[simp] theorem orB_none (x : Option Blk) : orB none x = x := rfl
theorem getB_old {h : List Blk} {id : Nat} (hid : id < h.length) (t : List (Nat × AV)) (m : List (Nat × Blk)) (o : List Blk) : getB h ⟨t, m, o⟩ id = orB (lookM m id) h[id]? := by
  unfold getB
  rw [if_pos hid]
  simp only
  cases lookM m id <;> rfl
theorem setB_old {h : List Blk} {id : Nat} (hid : id < h.length) (t : List (Nat × AV)) (m : List (Nat × Blk)) (o : List Blk) (b : Blk) : setB h ⟨t, m, o⟩ id b = ⟨t, updM m id b, o⟩ := by
  unfold setB
  rw [if_pos hid]
@[simp] theorem lookM_nil (i : Nat) : lookM [] i = none := by simp only [lookM]
@[simp] theorem lookM_cons (a i : Nat) (v : Blk) (t : List (Nat × Blk)) : lookM ((a, v) :: t) i = if a = i then some v else lookM t i := by simp only [lookM]
@[simp] theorem updM_nil (i : Nat) (b : Blk) : updM [] i b = [(i, b)] := by simp only [updM]
@[simp] theorem updM_cons (a i : Nat) (v b : Blk) (t : List (Nat × Blk)) : updM ((a, v) :: t) i b = if a = i then (a, b) :: t else (a, v) :: updM t i b := by simp only [updM]
@[simp] theorem blk_lt1_bld (n : Nat) (T : TypeId) (cs : List AV) : (Blk.bld T cs).lt1 n = cs.all (AV.lt1 n) := by simp only [Blk.lt1]
@[simp] theorem blk_lt1_trow (n : Nat) (T : TypeId) (sz g : Nat) (els : List (List GV)) : (Blk.trow T sz g els).lt1 n = true := by simp only [Blk.lt1]
@[simp] theorem blk_lt1_cells (n : Nat) (cs : List AV) : (Blk.cells cs).lt1 n = cs.all (AV.lt1 n) := by simp only [Blk.lt1]
@[simp] theorem blk_lt1_rows (n a b : Nat) (els : List (List GV)) : (Blk.rows a b els).lt1 n = true := by simp only [Blk.lt1]
@[simp] theorem set_last {α : Type} (l : List α) (a b : α) : (l ++ [a]).set l.length b = l ++ [b] := by simp
@[simp] theorem getB_last (h : List Blk) (t : List (Nat × AV)) (m : List (Nat × Blk)) (o : List Blk) (b : Blk) : getB h ⟨t, m, o ++ [b]⟩ (h.length + o.length) = some b := by simp
@[simp] theorem setB_last (h : List Blk) (t : List (Nat × AV)) (m : List (Nat × Blk)) (o : List Blk) (b b' : Blk) : setB h ⟨t, m, o ++ [b]⟩ (h.length + o.length) b' = ⟨t, m, o ++ [b']⟩ := by simp
@[simp] theorem blk_nlt (h : List Blk) (k : Nat) : (h.length + k < h.length) = False := by simp
theorem isLive_own0 (h o : List Blk) : isLiveB (h ++ o) h.length = isLiveB o 0 := by unfold isLiveB; rw [List.getElem?_append_right (Nat.le_refl _), Nat.sub_self]
theorem isLive_own (h o : List Blk) (k : Nat) : isLiveB (h ++ o) (h.length + k) = isLiveB o k := by unfold isLiveB; rw [List.getElem?_append_right (by omega), Nat.add_sub_cancel_left]
theorem isLive_zero (b : Blk) (o : List Blk) : isLiveB (b :: o) 0 = b.live := by unfold isLiveB; rw [List.getElem?_cons_zero]
theorem isLive_succ (b : Blk) (o : List Blk) (k : Nat) : isLiveB (b :: o) (k + 1) = isLiveB o k := by unfold isLiveB; rw [List.getElem?_cons_succ]
theorem full_m0 (h o : List Blk) (t : List (Nat × AV)) : full h ⟨t, [], o⟩ = h ++ o := rfl
attribute [simp] isLive_own0 isLive_own isLive_zero isLive_succ Blk.live
attribute [simp] full applyM hideB

end Go.AM
end
section
set_option linter.unusedSimpArgs false
set_option linter.unusedVariables false
namespace Go.AM
open Go

@[simp] theorem nat_not_neg (n : Nat) : ((n : Int) < 0) = False := by apply propext; constructor <;> intro h <;> first | omega | exact h.elim
theorem ofInt_toNat64 (a : Nat) : (BitVec.ofInt 64 (a : Int)).toNat = a % 18446744073709551616 := by
  rw [BitVec.toNat_ofInt]; simp; omega
theorem ofInt_toNat8 (a : Nat) : (BitVec.ofInt 8 (a : Int)).toNat = a % 256 := by
  rw [BitVec.toNat_ofInt]; simp; omega
theorem or_u64 {a b : Nat} (ha : a < 18446744073709551616) (hb : b < 18446744073709551616) : orI .u64 a b = ((a ||| b : Nat) : Int) := by
  show IntKind.u64.wrap ↑(BitVec.ofInt 64 (a : Int) ||| BitVec.ofInt 64 (b : Int)).toNat = _
  rw [BitVec.toNat_or, ofInt_toNat64, ofInt_toNat64, Nat.mod_eq_of_lt ha, Nat.mod_eq_of_lt hb]
  have : a ||| b < 2 ^ 64 := Nat.or_lt_two_pow ha hb
  exact wrap_u64 (by omega) (by omega)
theorem and_u64 {a b : Nat} (ha : a < 18446744073709551616) (hb : b < 18446744073709551616) : andI .u64 a b = ((a &&& b : Nat) : Int) := by
  show IntKind.u64.wrap ↑(BitVec.ofInt 64 (a : Int) &&& BitVec.ofInt 64 (b : Int)).toNat = _
  rw [BitVec.toNat_and, ofInt_toNat64, ofInt_toNat64, Nat.mod_eq_of_lt ha, Nat.mod_eq_of_lt hb]
  have : a &&& b < 2 ^ 64 := Nat.and_lt_two_pow _ hb
  exact wrap_u64 (by omega) (by omega)
theorem xor_u64 {a b : Nat} (ha : a < 18446744073709551616) (hb : b < 18446744073709551616) : xorI .u64 a b = ((a ^^^ b : Nat) : Int) := by
  show IntKind.u64.wrap ↑(BitVec.ofInt 64 (a : Int) ^^^ BitVec.ofInt 64 (b : Int)).toNat = _
  rw [BitVec.toNat_xor, ofInt_toNat64, ofInt_toNat64, Nat.mod_eq_of_lt ha, Nat.mod_eq_of_lt hb]
  have : a ^^^ b < 2 ^ 64 := Nat.xor_lt_two_pow ha hb
  exact wrap_u64 (by omega) (by omega)
theorem wrap_u8n {n : Int} (h1 : 0 ≤ n) (h2 : n ≤ 255) : IntKind.u8.wrap n = n := by rw [wrap_u8]; omega
theorem or128 : ∀ a, a < 256 → a ||| 128 = a % 128 + 128 := by decide +kernel
theorem or_u8_128 {a : Nat} (ha : a < 256) : orI .u8 a 128 = ((a % 128 + 128 : Nat) : Int) := by
  show IntKind.u8.wrap ↑(BitVec.ofInt 8 (a : Int) ||| BitVec.ofInt 8 128).toNat = _
  have h := ofInt_toNat8 128
  have e : ((128 : Nat) : Int) = 128 := rfl
  rw [e] at h
  rw [BitVec.toNat_or, ofInt_toNat8, h, Nat.mod_eq_of_lt ha, Nat.mod_eq_of_lt (by omega), or128 a ha]
  exact wrap_u8n (by omega) (by omega)
theorem andNot128 : ∀ a : Fin 256, (BitVec.ofNat 8 a.val &&& ~~~ BitVec.ofNat 8 128).toNat = a.val % 128 := by decide +kernel
theorem andNot_u8_128 {a : Nat} (ha : a < 256) : andNotI .u8 a 128 = ((a % 128 : Nat) : Int) := by
  show IntKind.u8.wrap ↑(BitVec.ofInt 8 (a : Int) &&& ~~~ BitVec.ofInt 8 128).toNat = _
  have h := andNot128 ⟨a, ha⟩
  have e1 : BitVec.ofInt 8 (a : Int) = BitVec.ofNat 8 a := by apply BitVec.eq_of_toNat_eq; rw [ofInt_toNat8]; simp
  have e2 : BitVec.ofInt 8 128 = BitVec.ofNat 8 128 := by decide
  rw [e1, e2, h]
  simp only
  exact wrap_u8n (by omega) (by omega)

theorem xor_ones {a : Nat} (h : a < 18446744073709551616) : a ^^^ 18446744073709551615 = 18446744073709551615 - a := by
  have h1 := BitVec.toNat_not (x := BitVec.ofNat 64 a)
  have h2 : ~~~ (BitVec.ofNat 64 a) = BitVec.ofNat 64 a ^^^ BitVec.allOnes 64 := (BitVec.xor_allOnes).symm
  rw [h2, BitVec.toNat_xor] at h1
  simpa [Nat.mod_eq_of_lt h] using h1
theorem ofInt_toNat64i (a : Int) : (BitVec.ofInt 64 a).toNat = (a % 18446744073709551616).toNat := by
  rw [BitVec.toNat_ofInt]; rfl
theorem xor_i64_0 {a : Int} (h1 : 0 ≤ a) (h2 : a ≤ 9223372036854775807) : xorI .i64 a 0 = a := by
  show IntKind.i64.wrap ↑(BitVec.ofInt 64 a ^^^ BitVec.ofInt 64 0).toNat = _
  rw [BitVec.toNat_xor, ofInt_toNat64i, ofInt_toNat64i, show ((0 : Int) % 18446744073709551616).toNat = 0 by rfl, Nat.xor_zero, Int.emod_eq_of_lt h1 (by omega), wrap_i64 (by omega) (by omega)]
  omega
theorem xor_i64_1 {a : Int} (h1 : 0 ≤ a) (h2 : a ≤ 9223372036854775807) : xorI .i64 a (-1) = -1 - a := by
  show IntKind.i64.wrap ↑(BitVec.ofInt 64 a ^^^ BitVec.ofInt 64 (-1)).toNat = _
  rw [BitVec.toNat_xor, ofInt_toNat64i, ofInt_toNat64i, show ((-1 : Int) % 18446744073709551616).toNat = 18446744073709551615 by rfl, Int.emod_eq_of_lt h1 (by omega), xor_ones (by omega)]
  simp [IntKind.wrap, IntKind.signed, IntKind.bits]
  split <;> omega
theorem wrap_i64_mod (n : Int) : IntKind.i64.wrap n = if n % 18446744073709551616 < 9223372036854775808 then n % 18446744073709551616 else n % 18446744073709551616 - 18446744073709551616 := by
  simp [IntKind.wrap, IntKind.signed, IntKind.bits]
  split <;> split <;> omega
theorem wrap_u64_i64 (n : Int) : IntKind.u64.wrap (IntKind.i64.wrap n) = n % 18446744073709551616 := by
  rw [wrap_i64_mod, wrap_u64_mod]; split <;> omega
theorem or_shift {a b : Nat} (i : Nat) (hb : b < 2 ^ i) : (a * 2 ^ i) ||| b = a * 2 ^ i + b := by
  rw [Nat.mul_comm, Nat.two_pow_add_eq_or_of_lt hb]

@[simp] theorem bytesG_nil : bytesG [] = [] := rfl
theorem bytesG_len (b : List UInt8) : (bytesG b).length = b.length := by simp [bytesG]
theorem bytesG_get (b : List UInt8) (k : Nat) : (bytesG b)[k]? = (b[k]?).map fun c => [.int .u8 c.toNat] := by simp [bytesG]
theorem bytesG_append (a b : List UInt8) : bytesG (a ++ b) = bytesG a ++ bytesG b := by simp [bytesG]
theorem bytesOf_bytesG : ∀ (b : List UInt8), evI.bytesOfG (bytesG b) = some b
  | [] => by simp [evI.bytesOfG]
  | c :: b => by
    have := bytesOf_bytesG b
    simp only [bytesG, List.map_cons] at this ⊢
    simp only [evI.bytesOfG, this]
    simp
theorem bytesG_one (n : Nat) (h : n < 256) : bytesG [UInt8.ofNat n] = [[.int .u8 (n : Int)]] := by
  simp [bytesG]; omega
end Go.AM
end
section
set_option linter.unusedSimpArgs false
set_option linter.unusedVariables false
set_option maxRecDepth 4000
namespace Go.AM
open Go
def growF (sz bytes : Nat) (z : List GV) (m : TypeId) (msg : List UInt8) : IFunc := ⟨2, 27, [.tmp 4], true,
 .seq (.reg [0, 1] [⟨(some 4), none, .nres sz⟩]) <|
 .seq (.seq (.reg [0, 1, 6] [⟨(some 5), none, .mov (.t 1)⟩,
     ⟨(some 6), none, .bin .lss (.t 5) (.c (.g (.int .i64 0)))⟩]) <|
  .cond [0, 1] (.t 6)
   (.reg [0, 1] [⟨(some 7), none, .mkif m (.c (.g (.str msg)))⟩,
      ⟨none, none, .row 0 []⟩])
   (.skip)) <|
 .seq (.seq (.reg [0, 1] [⟨(some 8), none, .mov (.t 1)⟩,
     ⟨(some 9), none, .mov (.t 0)⟩,
     ⟨(some 10), none, .cap (.t 9)⟩,
     ⟨(some 11), none, .mov (.t 0)⟩,
     ⟨(some 12), none, .len (.t 11)⟩,
     ⟨(some 13), none, .bin .sub (.t 10) (.t 12)⟩,
     ⟨(some 14), none, .bin .sub (.t 8) (.t 13)⟩,
     ⟨(some 1), none, .mov (.t 14)⟩]) <|
  .seq (.reg [0, 1, 16] [⟨(some 15), none, .mov (.t 1)⟩,
     ⟨(some 16), none, .bin .gtr (.t 15) (.c (.g (.int .i64 0)))⟩]) <|
  .cond [0] (.t 16)
   (.reg [0] [⟨(some 17), none, .mov (.t 0)⟩,
      ⟨(some 18), none, .mov (.t 0)⟩,
      ⟨(some 19), none, .cap (.t 18)⟩,
      ⟨(some 20), none, .slc sz (.t 17) none (some (.t 19))⟩,
      ⟨(some 21), none, .mov (.t 1)⟩,
      ⟨(some 22), none, .appZ sz bytes z (.t 20) (.t 21)⟩,
      ⟨(some 23), none, .mov (.t 0)⟩,
      ⟨(some 24), none, .len (.t 23)⟩,
      ⟨(some 25), none, .slc sz (.t 22) none (some (.t 24))⟩,
      ⟨(some 0), none, .mov (.t 25)⟩])
   (.skip)) <|
 .seq (.reg [4] [⟨(some 26), none, .mov (.t 0)⟩,
    ⟨(some 4), none, .mov (.t 26)⟩]) <|
 .ret⟩
theorem grow_ev {Tb : Tab} {f : FuncId} {sz bytes : Nat} {z : List GV} {m : TypeId} {msg : List UInt8} (hF : Tb.T f = some (growF sz bytes z m msg)) (n : Nat) (hn : n ≤ 140737488355328) (hb : n * bytes ≤ 140737488355328) (H : List Blk) :
    EvF Tb f [.g .nsl, I n] H = some (if n = 0 then ⟨.g .nsl, [], [.rows sz 1 []]⟩ else ⟨.ms (H.length + 1) 2 sz 0 0, [], [.rows sz 1 [], .rows sz 2 (List.replicate n z)]⟩) := by
  refine EvF_walk hF (by simp) ?_
  have e1 : IntKind.i64.wrap (n : Int) = n := wrap_i64 (by omega) (by omega)
  have e0 : IntKind.i64.wrap 0 = 0 := rfl
  by_cases h0 : n = 0
  · subst h0
    simp -implicitDefEqProofs [e0]
  · obtain ⟨k, rfl⟩ : ∃ k, n = k + 1 := ⟨n - 1, by omega⟩
    have e3 : ((k + 1 : Nat) : Int) ≤ 281474976710656 := by omega
    have e4 : ((k + 1 : Nat) : Int) * (bytes : Int) ≤ 281474976710656 := by
      have : ((k + 1 : Nat) : Int) * (bytes : Int) = (((k + 1) * bytes : Nat) : Int) := by simp
      rw [this]; omega
    obtain ⟨N, hN⟩ : ∃ N : Nat, k + 1 = N := ⟨_, rfl⟩
    rw [hN] at e1 e3 e4 hn hb ⊢
    have hpos : 0 < N := by omega
    have e2 : List.replicate N z = z :: List.replicate k z := by rw [← hN]; rfl
    simp -implicitDefEqProofs [e0, e1, hpos, show ¬ N = 0 by omega, cutB, bnd, intOfA, e3, e4, e2, appV, room, hN, hn, hb]
def concatL0 (m : TypeId) (msg : List UInt8) : IC :=
 .seq (.reg [0, 3, 9, 10, 11, 12] [⟨(some 12), none, .bin .lss (.t 11) (.t 10)⟩]) <|
 .seq (.cond [0, 3, 9, 10, 11] (.t 12)
   (.skip)
   (.exit 0)) <|
 .seq (.block [0, 3, 9, 10, 11] 1 <|
  .seq (.reg [0, 3, 5, 9, 10, 11] [⟨(some 13), none, .iaddr 1 (.t 9) (.t 11)⟩,
     ⟨(some 14), none, .load false 1 (.t 13)⟩,
     ⟨(some 5), none, .mov (.t 14)⟩]) <|
  .seq (.reg [0, 3, 9, 10, 11] [⟨(some 15), none, .mov (.t 3)⟩,
     ⟨(some 16), none, .mov (.t 5)⟩,
     ⟨(some 17), none, .len (.t 16)⟩,
     ⟨(some 18), none, .bin .add (.t 15) (.t 17)⟩,
     ⟨(some 3), none, .mov (.t 18)⟩]) <|
  .seq (.reg [0, 3, 9, 10, 11, 20] [⟨(some 19), none, .mov (.t 3)⟩,
     ⟨(some 20), none, .bin .lss (.t 19) (.c (.g (.int .i64 0)))⟩]) <|
  .cond [0, 3, 9, 10, 11] (.t 20)
   (.reg [0, 3, 9, 10, 11] [⟨(some 21), none, .mkif m (.c (.g (.str msg)))⟩,
      ⟨none, none, .row 0 []⟩])
   (.skip)) <|
 .reg [0, 3, 9, 10, 11] [⟨(some 22), none, .bin .add (.t 11) (.c (.g (.int .i64 1)))⟩,
   ⟨(some 11), none, .mov (.t 22)⟩]
def concatL1 (sz bytes : Nat) : IC :=
 .seq (.reg [6, 25, 26, 27, 28] [⟨(some 28), none, .bin .lss (.t 27) (.t 26)⟩]) <|
 .seq (.cond [6, 25, 26, 27] (.t 28)
   (.skip)
   (.exit 2)) <|
 .seq (.block [6, 25, 26, 27] 3 <|
  .seq (.reg [6, 8, 25, 26, 27] [⟨(some 29), none, .iaddr 1 (.t 25) (.t 27)⟩,
     ⟨(some 30), none, .load false 1 (.t 29)⟩,
     ⟨(some 8), none, .mov (.t 30)⟩]) <|
  .reg [6, 25, 26, 27] [⟨(some 31), none, .mov (.t 6)⟩,
    ⟨(some 32), none, .mov (.t 8)⟩,
    ⟨(some 33), none, .app sz bytes (.t 31) (.t 32)⟩,
    ⟨(some 6), none, .mov (.t 33)⟩]) <|
 .reg [6, 25, 26, 27] [⟨(some 34), none, .bin .add (.t 27) (.c (.g (.int .i64 1)))⟩,
   ⟨(some 27), none, .mov (.t 34)⟩]
def concatF (sz bytes : Nat) (g : FuncId) (m : TypeId) (msg : List UInt8) : IFunc := ⟨1, 36, [.tmp 2], false,
 .seq (.reg [0] [⟨(some 2), none, .nres sz⟩]) <|
 .seq (.reg [0, 3] [⟨(some 3), none, .mov (.c (.g (.int .i64 0)))⟩]) <|
 .seq (.seq (.reg [0, 3, 9, 10, 11] [⟨(some 9), none, .mov (.t 0)⟩,
     ⟨(some 10), none, .len (.t 9)⟩,
     ⟨(some 11), none, .mov (.c (.g (.int .i64 0)))⟩]) <|
  .block [0, 3] 0 <|
  .loop [0, 3, 9, 10, 11] [] (concatL0 m msg)) <|
 .seq (.reg [0, 6] [⟨(some 23), none, .mov (.t 3)⟩,
    ⟨(some 24), none, .call (.c (.g (.fn g))) [(.c (.g (.nsl))), (.t 23)]⟩,
    ⟨(some 6), none, .mov (.t 24)⟩]) <|
 .seq (.seq (.reg [6, 25, 26, 27] [⟨(some 25), none, .mov (.t 0)⟩,
     ⟨(some 26), none, .len (.t 25)⟩,
     ⟨(some 27), none, .mov (.c (.g (.int .i64 0)))⟩]) <|
  .block [6] 2 <|
  .loop [6, 25, 26, 27] [] (concatL1 sz bytes)) <|
 .seq (.reg [2] [⟨(some 35), none, .mov (.t 6)⟩,
    ⟨(some 2), none, .mov (.t 35)⟩]) <|
 .ret⟩
/-- A slice that is nil where it is empty. -/
def nslG {α : Type} (sz : Nat) (c : α → List GV) (l : List α) : GV := if l = [] then .nsl else .sl sz (l.map c)
theorem concat_loop0 {E : FnS} {m : TypeId} {msg : List UInt8} {α : Type} {sz : Nat} {c : α → List GV} (a b : Sl α) (hl : a.l.length + b.l.length ≤ 140737488355328) (H o : List Blk) :
    loopE E H (concatL0 m msg) [0, 3, 9, 10, 11] ⟨[(0, .g (.sl 1 [[a.g sz c], [b.g sz c]])), (3, I 0), (9, .g (.sl 1 [[a.g sz c], [b.g sz c]])), (10, I 2), (11, I 0)], [], o⟩ =
      some (.exit 0, ⟨[(0, .g (.sl 1 [[a.g sz c], [b.g sz c]])), (3, I (a.l.length + b.l.length : Nat)), (9, .g (.sl 1 [[a.g sz c], [b.g sz c]])), (10, I 2), (11, I 2), (12, B false)], [], o⟩) := by
  have e1 : IntKind.i64.wrap (a.l.length : Int) = a.l.length := wrap_i64 (by omega) (by omega)
  have e2 : IntKind.i64.wrap ((a.l.length : Int) + b.l.length) = (a.l.length : Int) + b.l.length := wrap_i64 (by omega) (by omega)
  have e3 : IntKind.i64.wrap 1 = 1 := rfl
  have e4 : IntKind.i64.wrap 2 = 2 := rfl
  have e5 : ¬ (a.l.length : Int) + b.l.length < 0 := by omega
  rw [loopE_step (c := concatL0 m msg) (by delta concatL0; rfl)]
  simp -implicitDefEqProofs [e1, e3]
  rw [loopE_step (c := concatL0 m msg) (by delta concatL0; rfl)]
  simp -implicitDefEqProofs [e2, e4, e5]
  rw [loopE_step (c := concatL0 m msg) (by delta concatL0; rfl)]
  simp -implicitDefEqProofs
/-- The row that Grow kept, filled by both. -/
theorem app_in {h : List Blk} {t : List (Nat × AV)} {sz bytes n k : Nat} {xs ys : List (List GV)} {z : List GV} (hx : xs.length = n) (hk : n + ys.length ≤ k) (A B : Blk) :
    appV h ⟨t, [], [A, B, .rows sz 2 (xs ++ List.replicate (k - n) z)]⟩ sz bytes (.ms (h.length + 2) 2 sz 0 n) ys =
      some (.ms (h.length + 2) 2 sz 0 (n + ys.length), ⟨t, [], [A, B, .rows sz 2 ((xs ++ ys) ++ List.replicate (k - (n + ys.length)) z)]⟩, if ys = [] then [] else [h.length + 2]) := by
  cases ys with
  | nil => simp -implicitDefEqProofs [appV, cur]
  | cons y ys =>
    have e1 : (xs ++ List.replicate (k - n) z).take n = xs := by rw [← hx]; simp
    have e2 : (xs ++ List.replicate (k - n) z).drop (n + (y :: ys).length) = List.replicate (k - (n + (y :: ys).length)) z := by
      rw [List.drop_append, List.drop_eq_nil_of_le (by omega), List.drop_replicate]
      simp only [List.nil_append, hx]
      congr 1; omega
    have e3 : 0 + n + (y :: ys).length ≤ (xs ++ List.replicate (k - n) z).length := by simp; simp at hk; omega
    simp only [appV, getB_own, List.getElem?_cons_succ, List.getElem?_cons_zero, true_and, if_true, if_pos e3, Nat.zero_add, e1, e2, setB_own, List.set_cons_succ, List.set_cons_zero]
    simp
    simp at hk; omega
theorem concat_loop1 {E : FnS} {α : Type} {sz bytes : Nat} {z : List GV} {c : α → List GV} (a b : Sl α) (H : List Blk) (A B' : Blk) :
    loopE E H (concatL1 sz bytes) [6, 25, 26, 27] ⟨[(6, .ms (H.length + 2) 2 sz 0 0), (25, .g (.sl 1 [[a.g sz c], [b.g sz c]])), (26, I 2), (27, I 0)], [], [A, B', .rows sz 2 (List.replicate (a.l.length + b.l.length) z)]⟩ =
      some (.exit 2, ⟨[(6, .ms (H.length + 2) 2 sz 0 (a.l.length + b.l.length)), (25, .g (.sl 1 [[a.g sz c], [b.g sz c]])), (26, I 2), (27, I 2), (28, B false)], [], [A, B', .rows sz 2 ((a.l ++ b.l).map c)]⟩) := by
  have e3 : IntKind.i64.wrap 1 = 1 := rfl
  have e4 : IntKind.i64.wrap 2 = 2 := rfl
  have a1 := fun t => app_in (h := H) (t := t) (sz := sz) (bytes := bytes) (n := 0) (k := a.l.length + b.l.length) (xs := []) (ys := a.l.map c) (z := z) rfl (by simp) A B'
  have a2 := fun t => app_in (h := H) (t := t) (sz := sz) (bytes := bytes) (n := a.l.length) (k := a.l.length + b.l.length) (xs := a.l.map c) (ys := b.l.map c) (z := z) (by simp) (by simp) A B'
  simp only [List.nil_append, Nat.sub_zero, Nat.zero_add, List.length_map, Nat.sub_self, List.replicate_zero, List.append_nil, Nat.add_sub_cancel_left] at a1 a2
  rw [loopE_step (c := concatL1 sz bytes) (by delta concatL1; rfl)]
  simp -implicitDefEqProofs [e3, a1]
  rw [loopE_step (c := concatL1 sz bytes) (by delta concatL1; rfl)]
  simp -implicitDefEqProofs [e4, a2]
  rw [loopE_step (c := concatL1 sz bytes) (by delta concatL1; rfl)]
  simp -implicitDefEqProofs
theorem concat_loop1n {E : FnS} {sz bytes : Nat} (ga gb : GV) (ha : ∀ h s, viewN h s sz (.g ga) = some []) (hb : ∀ h s, viewN h s sz (.g gb) = some []) (H o : List Blk) :
    loopE E H (concatL1 sz bytes) [6, 25, 26, 27] ⟨[(6, .g .nsl), (25, .g (.sl 1 [[ga], [gb]])), (26, I 2), (27, I 0)], [], o⟩ =
      some (.exit 2, ⟨[(6, .g .nsl), (25, .g (.sl 1 [[ga], [gb]])), (26, I 2), (27, I 2), (28, B false)], [], o⟩) := by
  have e3 : IntKind.i64.wrap 1 = 1 := rfl
  have e4 : IntKind.i64.wrap 2 = 2 := rfl
  rw [loopE_step (c := concatL1 sz bytes) (by delta concatL1; rfl)]
  simp -implicitDefEqProofs [e3, ha, appV]
  rw [loopE_step (c := concatL1 sz bytes) (by delta concatL1; rfl)]
  simp -implicitDefEqProofs [e4, hb, appV]
  rw [loopE_step (c := concatL1 sz bytes) (by delta concatL1; rfl)]
  simp -implicitDefEqProofs
/-- slices.Concat of two. -/
theorem concat_ev {Tb : Tab} {f g : FuncId} {α : Type} {sz bytes : Nat} {z : List GV} {m m' : TypeId} {msg msg' : List UInt8} {c : α → List GV} (hF : Tb.T f = some (concatF sz bytes g m msg)) (hG : Tb.T g = some (growF sz bytes z m' msg'))
    (a b : Sl α) (hn : a.l.length + b.l.length ≤ 140737488355328) (hb : (a.l.length + b.l.length) * bytes ≤ 140737488355328) (H : List Blk) :
    EvF Tb f [.g (.sl 1 [[a.g sz c], [b.g sz c]])] H = some ⟨.g (nslG sz c (a.l ++ b.l)), [], []⟩ := by
  refine EvF_walk hF (by simp) ?_
  have g1 := fun H => grow_ev hG (a.l.length + b.l.length) hn hb H
  have l0 := fun o => concat_loop0 (E := EvF Tb) (m := m) (msg := msg) (sz := sz) (c := c) a b hn H o
  simp only [Int.natCast_add] at l0 g1
  by_cases h0 : a.l.length + b.l.length = 0
  · have ha0 : a.l = [] := List.eq_nil_of_length_eq_zero (by omega)
    have hb0 : b.l = [] := List.eq_nil_of_length_eq_zero (by omega)
    have l1 := fun o => concat_loop1n (E := EvF Tb) (sz := sz) (bytes := bytes) (a.g sz c) (b.g sz c) (fun h s => by rw [viewN_Sl, ha0]; rfl) (fun h s => by rw [viewN_Sl, hb0]; rfl) H o
    simp only [if_pos h0] at g1
    have g1 : ∀ H, EvF Tb g [.g .nsl, I 0] H = some ⟨.g .nsl, [], [.rows sz 1 []]⟩ := fun H => by have := g1 H; rw [ha0, hb0] at this; exact this
    simp -implicitDefEqProofs [l0, g1, l1, nslG, ha0, hb0]
  · have hne : ¬ a.l ++ b.l = [] := fun e => h0 (by rw [← List.length_append, e]; rfl)
    have l1 := fun A B => concat_loop1 (E := EvF Tb) (sz := sz) (bytes := bytes) (z := z) (c := c) a b H A B
    simp only [if_neg h0] at g1
    have e5 : List.take (a.l.length + b.l.length) (List.map c (a.l ++ b.l)) = List.map c (a.l ++ b.l) := List.take_of_length_le (by simp)
    simp -implicitDefEqProofs only [List.map_append] at l1 e5
    simp -implicitDefEqProofs [l0, g1, l1, nslG, hne, e5]
/-- append to nil. -/
theorem app_nil {α : Type} {c : α → List GV} {sz bytes : Nat} {l : List α} (hne : l ≠ []) (h1 : l.length ≤ 140737488355328) (h2 : l.length * bytes ≤ 140737488355328) (H : List Blk) (t : List (Nat × AV)) (m : List (Nat × Blk)) (o : List Blk) :
    appV H ⟨t, m, o⟩ sz bytes (.g .nsl) (l.map c) = some (.ms (H.length + o.length) 2 sz 0 l.length, ⟨t, m, o ++ [.rows sz 2 (l.map c)]⟩, []) := by
  cases l with
  | nil => exact absurd rfl hne
  | cons x l => simp only [List.length_cons] at h1 h2; simp [appV, room, h1, h2]
/-- append to a row that is full, or may be. -/
theorem app_grow {sz bytes g : Nat} {xs ys : List (List GV)} (hne : ys ≠ []) (h1 : xs.length + ys.length ≤ 140737488355328) (h2 : (xs.length + ys.length) * bytes ≤ 140737488355328) (H : List Blk) (t : List (Nat × AV)) (m : List (Nat × Blk)) (o : List Blk) :
    appV H ⟨t, m, o ++ [.rows sz g xs]⟩ sz bytes (.ms (H.length + o.length) g sz 0 xs.length) ys =
      some (.ms (H.length + o.length) (g + 1) sz 0 (xs.length + ys.length), ⟨t, m, o ++ [.rows sz (g + 1) (xs ++ ys)]⟩, [H.length + o.length]) := by
  cases ys with
  | nil => exact absurd rfl hne
  | cons y ys =>
    simp only [List.length_cons] at h1 h2
    have e : ¬ xs.length + (ys.length + 1) ≤ xs.length := by omega
    simp only [appV, getB_last, true_and, if_true, List.length_cons, Nat.zero_add, if_neg e, Nat.le_refl, room, h1, h2, decide_true, Bool.and_self, setB_last, List.take_length]
def cloneF (sz bytes : Nat) (esc : Bool) : IFunc := ⟨1, 8, [.tmp 2], esc,
 .seq (.reg [0] [⟨(some 2), none, .nres sz⟩]) <|
 .seq (.seq (.reg [0, 4] [⟨(some 3), none, .mov (.t 0)⟩,
     ⟨(some 4), none, .isnilS false (.t 3)⟩]) <|
  .cond [0] (.t 4)
   (.seq (.reg [2] [⟨(some 2), none, .nres sz⟩]) <|
    .ret)
   (.skip)) <|
 .seq (.reg [2] [⟨(some 5), none, .mk0 sz⟩,
    ⟨(some 6), none, .mov (.t 0)⟩,
    ⟨(some 7), none, .app sz bytes (.t 5) (.t 6)⟩,
    ⟨(some 2), none, .mov (.t 7)⟩]) <|
 .ret⟩
/-- slices.Clone of what is not empty, as a row of one's own. -/
theorem clone_ev {Tb : Tab} {f : FuncId} {α : Type} {sz bytes : Nat} {c : α → List GV} (hF : Tb.T f = some (cloneF sz bytes true)) (l : List α) (hne : l ≠ []) (hn : l.length ≤ 140737488355328) (hb : l.length * bytes ≤ 140737488355328) (H : List Blk) :
    EvF Tb f [.g (.sl sz (l.map c))] H = some ⟨.ms (H.length + 1) 3 sz 0 l.length, [], [.rows sz 1 [], .rows sz 3 (l.map c)]⟩ := by
  refine EvF_walk hF (by simp) ?_
  cases l with
  | nil => exact absurd rfl hne
  | cons x l =>
    simp only [List.length_cons] at hn hb
    simp -implicitDefEqProofs [appV, room, hn, hb]
end Go.AM
end
section
set_option linter.unusedSimpArgs false
set_option linter.unusedVariables false
namespace Go.AM
open Go

def ixL (agg : Bool) (n : Nat) : IC :=
 .seq (.reg [0, 1, 7, 8, 9] [⟨(some 9), none, .bin .lss (.t 8) (.t 7)⟩]) <|
 .seq (.cond [0, 1, 7, 8] (.t 9)
   (.skip)
   (.exit 0)) <|
 .seq (.block [0, 1, 7, 8] 1 <|
  .seq (.reg [0, 1, 5, 7, 8] [⟨(some 10), none, .mov (.t 8)⟩,
     ⟨(some 5), none, .mov (.t 10)⟩]) <|
  .seq (.reg [0, 1, 5, 7, 8, 16] [⟨(some 11), none, .mov (.t 1)⟩,
     ⟨(some 12), none, .mov (.t 0)⟩,
     ⟨(some 13), none, .mov (.t 5)⟩,
     ⟨(some 14), none, .iaddr n (.t 12) (.t 13)⟩,
     ⟨(some 15), none, .load agg n (.t 14)⟩,
     ⟨(some 16), none, .call (.t 11) [(.t 15)]⟩]) <|
  .cond [0, 1, 7, 8] (.t 16)
   (.seq (.reg [4] [⟨(some 17), none, .mov (.t 5)⟩,
       ⟨(some 4), none, .mov (.t 17)⟩]) <|
    .ret)
   (.skip)) <|
 .reg [0, 1, 7, 8] [⟨(some 18), none, .bin .add (.t 8) (.c (.g (.int .i64 1)))⟩,
   ⟨(some 8), none, .mov (.t 18)⟩]
def ixF (agg : Bool) (n : Nat) : IFunc := ⟨2, 19, [.tmp 4], false,
 .seq (.reg [0, 1] [⟨(some 4), none, .mov (.c (.g (.int .i64 0)))⟩]) <|
 .seq (.seq (.reg [0, 1, 7, 8] [⟨(some 6), none, .mov (.t 0)⟩,
     ⟨(some 7), none, .len (.t 6)⟩,
     ⟨(some 8), none, .mov (.c (.g (.int .i64 0)))⟩]) <|
  .block [] 0 <|
  .loop [0, 1, 7, 8] [] (ixL agg n)) <|
 .seq (.reg [4] [⟨(some 4), none, .mov (.c (.g (.int .i64 (-1))))⟩]) <|
 .ret⟩
def cfF (g : FuncId) : IFunc := ⟨2, 9, [.tmp 4], false,
 .seq (.reg [0, 1] [⟨(some 4), none, .mov (.c (.g (.bool false)))⟩]) <|
 .seq (.reg [4] [⟨(some 5), none, .mov (.t 0)⟩,
    ⟨(some 6), none, .mov (.t 1)⟩,
    ⟨(some 7), none, .call (.c (.g (.fn g))) [(.t 5), (.t 6)]⟩,
    ⟨(some 8), none, .bin .geq (.t 7) (.c (.g (.int .i64 0)))⟩,
    ⟨(some 4), none, .mov (.t 8)⟩]) <|
 .ret⟩

/-- The first place at which something holds. -/
def idxG {α : Type} (p : α → Bool) : Nat → List α → Int
  | _, [] => -1
  | k, x :: l => if p x = true then k else idxG p (k + 1) l
theorem idxG_iff {α : Type} (p : α → Bool) : ∀ (l : List α) (k : Nat), 0 ≤ idxG p k l ↔ l.any p = true
  | [], k => by simp [idxG]
  | x :: l, k => by
    unfold idxG
    by_cases h : p x = true
    · rw [if_pos h]; simp [h]
    · rw [if_neg h, idxG_iff p l (k + 1)]; simp [h]
theorem idxG_any {α : Type} (p : α → Bool) (l : List α) (k : Nat) : decide (0 ≤ idxG p k l) = l.any p := by
  by_cases h : l.any p = true
  · rw [h]; simpa using (idxG_iff p l k).2 h
  · rw [Bool.eq_false_iff.2 h]; simpa using fun hh => h ((idxG_iff p l k).1 hh)

theorem ix_loop {Tb : Tab} {α : Type} {agg : Bool} {n : Nat} {c : α → List GV} (e : α → AV) (p : α → Bool) (fv : AV) (l : List α) (hl : l.length ≤ 9223372036854775807) (H : List Blk)
    (hel : ∀ x, AM.sub agg n (((c x).map AV.g).take n) = some (e x)) (hcall : ∀ x ∈ l, ∀ t, evCall (EvF Tb) H [] ⟨t, [], []⟩ fv [e x] = some (.g (.bool (p x)), ⟨t, [], []⟩, [])) :
    loopE (EvF Tb) H (ixL agg n) [0, 1, 7, 8] ⟨[(0, .g (.sl n (l.map c))), (1, fv), (7, .g (.int .i64 l.length)), (8, .g (.int .i64 0))], [], []⟩ =
      some (if l.any p = true then (.ret, ⟨[(4, .g (.int .i64 (idxG p 0 l)))], [], []⟩) else (.exit 0, ⟨[(0, .g (.sl n (l.map c))), (1, fv), (7, .g (.int .i64 l.length)), (8, .g (.int .i64 l.length)), (9, .g (.bool false))], [], []⟩)) := by
  have hw := loop_run (E := EvF Tb) (h := H) (c := ixL agg n) (lv := [0, 1, 7, 8]) (l := l) (fun _ (_ : Unit) => True) (fun k x _ => if p x = true then .inr (.ret, ⟨[(4, .g (.int .i64 k))], [], []⟩) else .inl ())
    (fun k _ => ⟨[(0, .g (.sl n (l.map c))), (1, fv), (7, .g (.int .i64 l.length)), (8, .g (.int .i64 k))], [], []⟩) (fun _ => (.exit 0, ⟨[(0, .g (.sl n (l.map c))), (1, fv), (7, .g (.int .i64 l.length)), (8, .g (.int .i64 l.length)), (9, .g (.bool false))], [], []⟩)) (by simp)
    (fun k x _ hk hx hx' _ => ?_) (fun _ _ => ?_) l.length 0 () rfl (Nat.zero_le _) trivial
  · simp only [Int.natCast_zero] at hw
    rw [hw, List.drop_zero]
    congr 1
    have key : ∀ (l : List α) (k : Nat) (fin : Ex × St), endL (fun _ => fin) (runL (β := Unit) (fun k x _ => if p x = true then .inr (.ret, ⟨[(4, .g (.int .i64 k))], [], []⟩) else .inl ()) k l ()) = if l.any p = true then (.ret, ⟨[(4, .g (.int .i64 (idxG p k l)))], [], []⟩) else fin := by
      intro l
      induction l with
      | nil => intro k fin; simp [runL, endL]
      | cons x l ih =>
        intro k fin
        simp only [runL, List.any_cons, idxG]
        by_cases hp : p x = true
        · simp [hp, endL]
        · simp only [hp, Bool.false_eq_true, if_false]
          rw [ih]; simp
    exact key l 0 _
  · subst hx'
    have hc := hcall l[k] (List.getElem_mem hk)
    delta ixL
    by_cases hp : p l[k] = true
    · simp -implicitDefEqProofs [-AM.sub, hk, hp, hel, hc, wrap_succ hk hl, show (k : Int) < (l.length : Int) by omega]
    · simp -implicitDefEqProofs [-AM.sub, hk, hp, hel, hc, wrap_succ hk hl, show (k : Int) < (l.length : Int) by omega]
  · delta ixL
    simp -implicitDefEqProofs

theorem index_ev {Tb : Tab} {f : FuncId} {α : Type} {agg : Bool} {n : Nat} {c : α → List GV} (hF : Tb.T f = some (ixF agg n)) (e : α → AV) (p : α → Bool) (fv : AV) (s : Sl α) (hl : s.l.length ≤ 9223372036854775807) (H : List Blk)
    (hel : ∀ x, AM.sub agg n (((c x).map AV.g).take n) = some (e x)) (hcall : ∀ x ∈ s.l, ∀ t, evCall (EvF Tb) H [] ⟨t, [], []⟩ fv [e x] = some (.g (.bool (p x)), ⟨t, [], []⟩, [])) :
    EvF Tb f [.g (s.g n c), fv] H = some ⟨.g (.int .i64 (idxG p 0 s.l)), [], []⟩ := by
  refine EvF_walk hF (by simp [ixF]) ?_
  cases s with
  | nil =>
    have hw := loopE_out (EvF Tb) H (ixL agg n) [0, 1, 7, 8] ⟨[(0, .g .nsl), (1, fv), (7, .g (.int .i64 0)), (8, .g (.int .i64 0))], [], []⟩ (.exit 0, ⟨[(0, .g .nsl), (1, fv), (7, .g (.int .i64 0)), (8, .g (.int .i64 0)), (9, .g (.bool false))], [], []⟩) (by simp) (by delta ixL; simp -implicitDefEqProofs)
    simp -implicitDefEqProofs [lenV, idxG, hw]
  | of l =>
    have hw := ix_loop e p fv l hl H hel hcall
    by_cases ha : l.any p = true
    · rw [if_pos ha] at hw
      simp -implicitDefEqProofs [lenV, hw]
    · rw [if_neg ha] at hw
      have h1 := idxG_any p l 0
      have h2 : idxG p 0 l = -1 := by
        have : ∀ (l : List α) (k : Nat), ¬ l.any p = true → idxG p k l = -1 := by
          intro l
          induction l with
          | nil => intro k _; rfl
          | cons x l ih =>
            intro k h
            simp only [List.any_cons, Bool.or_eq_true, not_or] at h
            simp only [idxG, if_neg h.1]
            exact ih _ h.2
        exact this l 0 ha
      simp -implicitDefEqProofs [lenV, hw, h2]

theorem contains_ev {Tb : Tab} {f g : FuncId} {α : Type} {agg : Bool} {n : Nat} {c : α → List GV} (hF : Tb.T f = some (cfF g)) (hG : Tb.T g = some (ixF agg n)) (e : α → AV) (p : α → Bool) (fv : AV) (s : Sl α) (hl : s.l.length ≤ 9223372036854775807) (H : List Blk)
    (hel : ∀ x, AM.sub agg n (((c x).map AV.g).take n) = some (e x)) (hcall : ∀ x ∈ s.l, ∀ t, evCall (EvF Tb) H [] ⟨t, [], []⟩ fv [e x] = some (.g (.bool (p x)), ⟨t, [], []⟩, [])) :
    EvF Tb f [.g (s.g n c), fv] H = some ⟨.g (.bool (s.l.any p)), [], []⟩ := by
  have h1 := index_ev hG e p fv s hl H hel hcall
  refine EvF_walk hF (by simp [cfF]) ?_
  rw [← idxG_any p s.l 0]
  simp -implicitDefEqProofs [h1]
end Go.AM
end
section
namespace Go.IR
open Go Go.AM

abbrev m (d a : Nat) : AOper := ⟨some d, none, .mov (.t a)⟩
abbrev mi (d : Nat) (n : Int) : AOper := ⟨some d, none, .mov (.c (.g (.int .i64 n)))⟩
abbrev mb (d : Nat) (b : Bool) : AOper := ⟨some d, none, .mov (.c (.g (.bool b)))⟩
abbrev fa (d o a : Nat) : AOper := ⟨some d, none, .faddr o (.t a)⟩
abbrev l1 (d a : Nat) : AOper := ⟨some d, none, .load false 1 (.t a)⟩
abbrev la (d n a : Nat) : AOper := ⟨some d, none, .load true n (.t a)⟩
abbrev st (n p x : Nat) : AOper := ⟨none, none, .store n (.t p) (.t x)⟩
abbrev oR (d c y : Nat) : AOper := ⟨some d, none, .pick (.t c) (.c (.g (.bool true))) (.t y)⟩
abbrev aN (d c y : Nat) : AOper := ⟨some d, none, .pick (.t c) (.t y) (.c (.g (.bool false)))⟩
abbrev ex (d j a : Nat) : AOper := ⟨some d, none, .ext j (.t a)⟩
abbrev ia (d n x i : Nat) : AOper := ⟨some d, none, .iaddr n (.t x) (.t i)⟩
abbrev ln (d a : Nat) : AOper := ⟨some d, none, .len (.t a)⟩
abbrev bx (d a : Nat) : AOper := ⟨some d, none, .box (.t a)⟩
abbrev nr (d n : Nat) : AOper := ⟨some d, none, .nres n⟩
abbrev nt (d a : Nat) : AOper := ⟨some d, none, .un .not (.t a)⟩
abbrev nc (d a : Nat) : AOper := ⟨some d, none, .nilchk (.t a)⟩
abbrev bt (d : Nat) (o : BinOp) (x y : Nat) : AOper := ⟨some d, none, .bin o (.t x) (.t y)⟩
abbrev bc (d : Nat) (o : BinOp) (x : Nat) (n : Int) : AOper := ⟨some d, none, .bin o (.t x) (.c (.g (.int .i64 n)))⟩
abbrev ap (d n b x y : Nat) : AOper := ⟨some d, none, .app n b (.t x) (.t y)⟩
abbrev k0 (d f : Nat) : AOper := ⟨some d, none, .call (.c (.g (.fn f))) []⟩
abbrev k1 (d f x : Nat) : AOper := ⟨some d, none, .call (.c (.g (.fn f))) [.t x]⟩
abbrev k2 (d f x y : Nat) : AOper := ⟨some d, none, .call (.c (.g (.fn f))) [.t x, .t y]⟩
abbrev k3 (d f x y z : Nat) : AOper := ⟨some d, none, .call (.c (.g (.fn f))) [.t x, .t y, .t z]⟩
abbrev mG (d g : Nat) (q : Bool) (a : Nat) : AOper := ⟨some d, some (g, q), .mov (.t a)⟩
abbrev fG (d g : Nat) (q : Bool) (o a : Nat) : AOper := ⟨some d, some (g, q), .faddr o (.t a)⟩
abbrev lG (d g : Nat) (q : Bool) (a : Nat) : AOper := ⟨some d, some (g, q), .load false 1 (.t a)⟩
abbrev laG (d g : Nat) (q : Bool) (n a : Nat) : AOper := ⟨some d, some (g, q), .load true n (.t a)⟩
abbrev iG (d g : Nat) (q : Bool) (n x i : Nat) : AOper := ⟨some d, some (g, q), .iaddr n (.t x) (.t i)⟩
abbrev nG (d g : Nat) (q : Bool) (a : Nat) : AOper := ⟨some d, some (g, q), .un .not (.t a)⟩
abbrev lnG (d g : Nat) (q : Bool) (a : Nat) : AOper := ⟨some d, some (g, q), .len (.t a)⟩
abbrev btG (d g : Nat) (q : Bool) (o : BinOp) (x y : Nat) : AOper := ⟨some d, some (g, q), .bin o (.t x) (.t y)⟩
abbrev bcG (d g : Nat) (q : Bool) (o : BinOp) (x : Nat) (n : Int) : AOper := ⟨some d, some (g, q), .bin o (.t x) (.c (.g (.int .i64 n)))⟩
abbrev k1G (d g : Nat) (q : Bool) (f x : Nat) : AOper := ⟨some d, some (g, q), .call (.c (.g (.fn f))) [.t x]⟩
abbrev k2G (d g : Nat) (q : Bool) (f x y : Nat) : AOper := ⟨some d, some (g, q), .call (.c (.g (.fn f))) [.t x, .t y]⟩
abbrev tk := Tree.take
abbrev rg := IC.reg
abbrev zi : Z := .z (.int .i64 0)
abbrev zb : Z := .z (.bool false)
abbrev zs : Z := .z (.str [])
abbrev gi : AV := .g (.int .i64 0)
abbrev gb : AV := .g (.bool false)
abbrev gs : AV := .g (.str [])
abbrev gn : AV := .g .nsl
abbrev i0 : GV := .int .i64 0
abbrev b0 : GV := .bool false
abbrev s0 : GV := .str []

/-- The lists of temporaries, in the order in which the compiler asks for them. -/
def hintC : IC → List (List Nat)
  | .reg lv _ => [lv]
  | .regy lv _ => [yMark :: lv]
  | .drw lv _ (.hold ts _) => [lv, ts]
  | .drw lv _ _ => [lv, []]
  | .seq a b => hintC a ++ hintC b
  | .cond lv _ a b => lv :: (hintC a ++ hintC b)
  | .block lv _ c => lv :: hintC c
  | .loop lv _ c => lv :: hintC c
  | .rfun lv rd lt _ => [[rd.key], lv, lt]
  | _ => []
end Go.IR
end
