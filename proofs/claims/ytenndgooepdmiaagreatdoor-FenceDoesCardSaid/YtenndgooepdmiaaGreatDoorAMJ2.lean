/- Part of the proof: the abstract machine, part 2 (AMActs3, AMActs4, AMApp, AMApp2, AMActs5, AMBld, AMMap, AMMap2, AMActs6, AMActs7, AMEval). No conditions. -/
import Derived.Test.YtenndgooepdmiaaGreatDoorAMJ1
import Derived.Laws.MakeOwn
import Derived.Laws.AppendOwn
import Derived.IntWalk
import Derived.Lib.Builder
import Derived.Lib.UnsafeStr
import Derived.MapKept
import Derived.Laws.BytesString
section
set_option linter.unusedSimpArgs false
set_option linter.unusedVariables false
namespace Go.AM
open Go

def ZRel (z : List Z) (cs : List Value) : Prop :=
  z.length = cs.length ∧ ∀ (j : Nat) (x : Z) (c : Value), z[j]? = some x → cs[j]? = some c → (∃ v, x = .z v ∧ cVal c = some (.g v)) ∨ (∃ n, x = .s n ∧ c = .slice none 0 0)

theorem ZRel.tail {x : Z} {z : List Z} {c : Value} {cs : List Value} (h : ZRel (x :: z) (c :: cs)) : ZRel z cs :=
  ⟨by have := h.1; simpa using this, fun j y d hy hd => h.2 (j + 1) y d (by simpa using hy) (by simpa using hd)⟩

theorem Same.trans {w w1 w2 : World} {H H1 : List Blk} {L L1 L2 : Nat → Lc} {ws : List Nat} (h : Same w w1 H L L1 ws) (k : Same w1 w2 H1 L1 L2 ws) (hle : H.length ≤ H1.length) (hg : ∀ id, id < H.length → id ∉ ws → Live H id → Live H1 id) : Same w w2 H L L2 ws := by
  intro id hid hws
  obtain ⟨h1, h2⟩ := h id hid hws
  obtain ⟨k1, k2⟩ := k id (by omega) hws
  exact ⟨k1.trans h1, fun hl b hb => (k2 (hg id hid hws hl) b (by rw [h1]; exact hb)).trans (h2 hl b hb)⟩

theorem zres_ok {w : World} : ∀ (z : List Z) (cs : List Value) (H : List Blk) (L : Nat → Lc), ZRel z cs → HR w H L →
    ∃ L', HR w (H ++ (zres H.length z).2) L' ∧ Ext (envOf w H L) (envOf w (H ++ (zres H.length z).2) L') ∧ Same w w H L L' [] ∧ (zres H.length z).1.length = cs.length ∧
      ∀ (j : Nat) (x : AV) (c : Value), (zres H.length z).1[j]? = some x → cs[j]? = some c → AR (envOf w (H ++ (zres H.length z).2) L') x c := by
  intro z
  induction z with
  | nil =>
    intro cs H L hz hr
    have : cs = [] := by have := hz.1; simp at this; exact List.eq_nil_of_length_eq_zero this.symm
    subst this
    exact ⟨L, by simpa [zres] using hr, by simpa [zres] using Ext.refl _, fun id _ _ => ⟨rfl, fun _ _ _ => rfl⟩, rfl, by simp⟩
  | cons x z ih =>
    intro cs H L hz hr
    cases cs with
    | nil => have := hz.1; simp at this
    | cons c cs =>
      rcases hz.2 0 x c rfl rfl with ⟨v, rfl, hv⟩ | ⟨n, rfl, rfl⟩
      · obtain ⟨L', h1, h2, h3, h4, h5⟩ := ih cs H L hz.tail hr
        refine ⟨L', h1, h2, h3, by simp [zres, h4], fun j y d hy hd => ?_⟩
        cases j with
        | zero => simp [zres] at hy hd; subst hy hd; exact cVal_ok hv
        | succ j => exact h5 j y d (by simpa [zres] using hy) (by simpa using hd)
      · obtain ⟨L1, r1, r2, r3, r4⟩ := hr.reserve n []
        obtain ⟨L', h1, h2, h3, h4, h5⟩ := ih cs (H ++ [.rows n 1 []]) L1 hz.tail r1
        simp only [List.length_append, List.length_cons, List.length_nil] at h1 h2 h4 h5
        have e : H ++ [Blk.rows n 1 []] ++ (zres (H.length + (0 + 1)) z).2 = H ++ (zres H.length (.s n :: z)).2 := by simp [zres]
        rw [e] at h1 h2 h5
        refine ⟨L', h1, r2.trans h2, r3.trans h3 (by simp) (fun id hid _ hl => ?_), by simpa [zres] using h4, fun j y d hy hd => ?_⟩
        · obtain ⟨k, k1, k2⟩ := hl
          exact ⟨k, by rw [List.getElem?_append_left hid]; exact k1, k2⟩
        · cases j with
          | zero => simp [zres] at hy hd; subst hy hd; exact r4.mono h2
          | succ j => exact h5 j y d (by simpa [zres] using hy) (by simpa using hd)

theorem zresT_ok {w : World} (e0 : TypeId) : ∀ (z : List Z) (cs : List Value) (H : List Blk) (L : Nat → Lc), ZRel z cs → HR w H L →
    ∃ L', HR w (H ++ (zresT e0 H.length z).2) L' ∧ Ext (envOf w H L) (envOf w (H ++ (zresT e0 H.length z).2) L') ∧ Same w w H L L' [] ∧ (zresT e0 H.length z).1.length = cs.length ∧
      ∀ (j : Nat) (x : AV) (c : Value), (zresT e0 H.length z).1[j]? = some x → cs[j]? = some c → AR (envOf w (H ++ (zresT e0 H.length z).2) L') x c := by
  intro z
  induction z with
  | nil =>
    intro cs H L hz hr
    have : cs = [] := by have := hz.1; simp at this; exact List.eq_nil_of_length_eq_zero this.symm
    subst this
    exact ⟨L, by simpa [zresT] using hr, by simpa [zresT] using Ext.refl _, fun id _ _ => ⟨rfl, fun _ _ _ => rfl⟩, rfl, by simp⟩
  | cons x z ih =>
    intro cs H L hz hr
    cases cs with
    | nil => have := hz.1; simp at this
    | cons c cs =>
      rcases hz.2 0 x c rfl rfl with ⟨v, rfl, hv⟩ | ⟨n, rfl, rfl⟩
      · obtain ⟨L', h1, h2, h3, h4, h5⟩ := ih cs H L hz.tail hr
        refine ⟨L', h1, h2, h3, by simp [zresT, h4], fun j y d hy hd => ?_⟩
        cases j with
        | zero => simp [zresT] at hy hd; subst hy hd; exact cVal_ok hv
        | succ j => exact h5 j y d (by simpa [zresT] using hy) (by simpa using hd)
      · obtain ⟨L1, r1, r2, r3, r4⟩ := hr.reserveT e0 n []
        obtain ⟨L', h1, h2, h3, h4, h5⟩ := ih cs (H ++ [.trow e0 n 1 []]) L1 hz.tail r1
        simp only [List.length_append, List.length_cons, List.length_nil] at h1 h2 h4 h5
        have e : H ++ [Blk.trow e0 n 1 []] ++ (zresT e0 (H.length + (0 + 1)) z).2 = H ++ (zresT e0 H.length (.s n :: z)).2 := by simp [zresT]
        rw [e] at h1 h2 h5
        refine ⟨L', h1, r2.trans h2, r3.trans h3 (by simp) (fun id hid _ hl => ?_), by simpa [zresT] using h4, fun j y d hy hd => ?_⟩
        · obtain ⟨k, k1, k2⟩ := hl
          exact ⟨k, by rw [List.getElem?_append_left hid]; exact k1, k2⟩
        · cases j with
          | zero => simp [zresT] at hy hd; subst hy hd; exact r4.mono h2
          | succ j => exact h5 j y d (by simpa [zresT] using hy) (by simpa using hd)

theorem cZ_ok {P : Program} {t : TypeId} {zs : List Z} (h : cZ P t = some zs) : ∃ i z, P.info? t = some i ∧ i.zero = some z ∧ ZRel zs z.cells.toList ∧ ∀ (j : Nat) (u : Value), z.cells[j]? = some u → u.oneCell' = true := by
  unfold cZ at h
  split at h
  · rename_i as ks has hks
    split at h
    · rename_i hlen
      obtain ⟨i, z, hi, hz, hcr, h1⟩ := cZero_ok (E := ⟨default, fun _ => False, fun _ => ⟨none, 0, 0, false⟩, 0, fun _ => False⟩) has
      refine ⟨i, z, hi, hz, ?_, h1⟩
      obtain ⟨m1, m2⟩ := mapM_get h
      have hl2 : (as.zip ks).length = as.length := by simp [hlen]
      refine ⟨by rw [m1, hl2, hcr.1]; simp, fun j x c hx hc => ?_⟩
      have hj : j < as.length := by have := (List.getElem?_eq_some_iff.1 hx).1; omega
      have hjk : j < ks.length := by omega
      have hzip : (as.zip ks)[j]? = some (as[j], ks[j]) := by rw [List.getElem?_zip_eq_some]; exact ⟨List.getElem?_eq_getElem hj, List.getElem?_eq_getElem hjk⟩
      have hm := m2 j _ x hzip hx
      unfold cZero at has
      rw [hi] at has
      simp [hz] at has
      obtain ⟨n1, n2⟩ := mapM_get has
      have hcv := n2 j c as[j] hc (List.getElem?_eq_getElem hj)
      dsimp only at hm
      split at hm
      · rename_i heq _
        simp at hm
        subst hm
        refine .inr ⟨_, rfl, ?_⟩
        rw [heq] at hcv
        unfold cVal at hcv
        split at hcv <;> (first | (cases hcv; done) | rfl)
      · rename_i heq _
        simp at hm
        subst hm
        exact .inl ⟨_, rfl, by rw [hcv, heq]⟩
      · cases hm
    · cases h
  · cases h

/-- A value's cells and the kinds of blocks that are made of them. -/
theorem run_newVar {P : Program} (t : TypeId) (v : Value) (w : World) : (newVar t v).run P w = .ok ⟨w.heap.size, 0, none⟩ { w with heap := w.heap.push (.cells v.cells t) } := by
  simp [newVar, newRow]

section
variable {P : Program} {h : List Blk} {s s' : St} {a : Act} {w : World} {L : Nat → Lc} {v : AV} {ws : List Nat} {drw : Option Nat} {nb : Nat}

theorem im_value {w' : World} {L' : Nat → Lc} {r : Result Next} {H H' : List Blk} {cv : Value} (h1 : r = .ok (.value cv) w') (h2 : AR (envOf w' H' L') v cv) (h3 : HR w' H' L') (h4 : Ext (envOf w H L) (envOf w' H' L')) (h5 : Same w w' H L L' ws) :
    Im w H L r v H' ws := ⟨_, w', L', h1, .inl ⟨cv, rfl, h2⟩, h3, h4, h5⟩

theorem i_nres (hr : HR w (full h s) L) {o : Oper} {sz : Nat} (ho : o.op = .assign (.const (.slice none 0 0))) (he : evI h nb s (.nres sz) = some (v, s', ws)) :
    Im w (full h s) L ((execOp a.eval o).run P w) v (full h s') ws ∧ s'.t = s.t := by
  simp [evI] at he
  obtain ⟨rfl, rfl, rfl⟩ := he
  obtain ⟨L', h1, h2, h3, h4⟩ := hr.reserve sz []
  rw [full_length] at h4
  refine ⟨?_, rfl⟩
  rw [full_push]
  exact im_value (by simp [execOp, ho, Act.eval]) h4 h1 h2 h3

theorem i_alloc (hr : HR w (full h s) L) {o : Oper} {t : TypeId} {z : List Z} (ho : o.op = .alloc t) (hz : cZ P t = some z) (he : evI h nb s (.alloc z) = some (v, s', ws)) :
    Im w (full h s) L ((execOp a.eval o).run P w) v (full h s') ws ∧ s'.t = s.t := by
  simp [evI] at he
  obtain ⟨rfl, rfl, rfl⟩ := he
  refine ⟨?_, rfl⟩
  obtain ⟨i, zv, hi, hzz, hzr, hone⟩ := cZ_ok hz
  obtain ⟨L1, r1, r2, r3, r4, r5⟩ := zres_ok z zv.cells.toList (full h s) L hzr hr
  rw [full_length] at r1 r2 r4 r5
  obtain ⟨L', k1, k2, k3, k4⟩ := r1.newCells (Grows.push w (.cells zv.cells t)) (zres (s.next h) z).1 zv.cells t w.heap.size (Nat.le_refl _) (heap_push _ _) ⟨by rw [r4]; simp, fun j x c hx hc => r5 j x c hx (by simpa using hc)⟩ hone []
  have e : full h { s with o := s.o ++ ((zres (s.next h) z).2 ++ [Blk.cells (zres (s.next h) z).1]) } = full h s ++ (zres (s.next h) z).2 ++ [Blk.cells (zres (s.next h) z).1] := by simp [full]
  rw [e]
  have e2 : (full h s ++ (zres (s.next h) z).2).length = s.next h + (zres (s.next h) z).2.length := by rw [List.length_append, full_length]
  rw [e2] at k4
  refine im_value (cv := .pointer (some ⟨w.heap.size, 0, none⟩)) ?_ k4 k1 (r2.trans k2) (r3.trans k3 (by simp) fun id hid _ ⟨x, hx, lx⟩ => ⟨x, by rw [List.getElem?_append_left hid]; exact hx, lx⟩)
  simp only [execOp, ho, Instr.alloc]
  simp [zeroValue, typeInfo, hi, hzz, run_newVar]

theorem i_allocT (hr : HR w (full h s) L) {o : Oper} {t : TypeId} {z : List Z} {e0 : TypeId} (ho : o.op = .alloc t) (hz : cZ P t = some z) (he : evI h nb s (.allocT t e0 z) = some (v, s', ws)) :
    Im w (full h s) L ((execOp a.eval o).run P w) v (full h s') ws ∧ s'.t = s.t := by
  simp [evI] at he
  obtain ⟨rfl, rfl, rfl⟩ := he
  refine ⟨?_, rfl⟩
  obtain ⟨i, zv, hi, hzz, hzr, hone⟩ := cZ_ok hz
  obtain ⟨L1, r1, r2, r3, r4, r5⟩ := zresT_ok e0 z zv.cells.toList (full h s) L hzr hr
  rw [full_length] at r1 r2 r4 r5
  obtain ⟨L', k1, k2, k3, k4⟩ := r1.newBld (Grows.push w (.cells zv.cells t)) (zresT e0 (s.next h) z).1 zv.cells t w.heap.size (Nat.le_refl _) (heap_push _ _) ⟨by rw [r4]; simp, fun j x c hx hc => r5 j x c hx (by simpa using hc)⟩ hone []
  have e : full h { s with o := s.o ++ ((zresT e0 (s.next h) z).2 ++ [Blk.bld t (zresT e0 (s.next h) z).1]) } = full h s ++ (zresT e0 (s.next h) z).2 ++ [Blk.bld t (zresT e0 (s.next h) z).1] := by simp [full]
  rw [e]
  have e2 : (full h s ++ (zresT e0 (s.next h) z).2).length = s.next h + (zresT e0 (s.next h) z).2.length := by rw [List.length_append, full_length]
  rw [e2] at k4
  refine im_value (cv := .pointer (some ⟨w.heap.size, 0, none⟩)) ?_ k4 k1 (r2.trans k2) (r3.trans k3 (by simp) fun id hid _ ⟨x, hx, lx⟩ => ⟨x, by rw [List.getElem?_append_left hid]; exact hx, lx⟩)
  simp only [execOp, ho, Instr.alloc]
  simp [zeroValue, typeInfo, hi, hzz, run_newVar]

theorem i_box (hr : HR w (full h s) L) (ht : TR (envOf w (full h s) L) a s.t) {o : Oper} {t : TypeId} {x : Operand} {X : Opd} (ho : o.op = .box t x) (hx : cOpd x = some X) (he : evI h nb s (.box X) = some (v, s', ws)) :
    Im w (full h s) L ((execOp a.eval o).run P w) v (full h s') ws ∧ s'.t = s.t := by
  simp only [evI] at he
  cases hX : val s X with
  | none => simp [hX] at he
  | some u =>
    simp only [hX] at he
    cases hcs : u.cellsO with
    | none => simp [hcs] at he
    | some cs =>
      simp [hcs] at he
      obtain ⟨rfl, rfl, rfl⟩ := he
      refine ⟨?_, rfl⟩
      obtain ⟨c1, c2⟩ := cells_ok (cOpd_ok ht hx hX) hcs
      obtain ⟨L', k1, k2, k3, k4⟩ := hr.newCells (Grows.push w (.cells (a.eval x).cells t)) cs (a.eval x).cells t w.heap.size (Nat.le_refl _) (heap_push _ _) c1 c2 []
      rw [full_push]
      rw [full_length] at k4
      exact im_value (cv := .pointer (some ⟨w.heap.size, 0, none⟩)) (by simp [execOp, ho, Instr.box, run_newVar]) k4 k1 k2 k3

theorem grounds_ok {E : Env} : ∀ {cs : List AV} {gs : List GV}, grounds cs = some gs → cs = gs.map .g := by
  intro cs
  induction cs with
  | nil => intro gs h; simp [grounds] at h; subst h; rfl
  | cons x cs ih =>
    intro gs h
    cases x with
    | g v =>
      simp only [grounds] at h
      cases hg : grounds cs with
      | none => simp [hg] at h
      | some vs => simp [hg] at h; subst h; simp [ih hg]
    | _ => simp [grounds] at h

theorem chunk_get {α : Type} (sz : Nat) : ∀ (n : Nat) (l : List α) (i : Nat) (el : List α), (chunk sz n l)[i]? = some el → i < n ∧ el = (l.drop (i * sz)).take sz := by
  intro n
  induction n with
  | zero => intro l i el h; simp [chunk] at h
  | succ n ih =>
    intro l i el h
    cases i with
    | zero => simp [chunk] at h; exact ⟨by omega, by simp [h]⟩
    | succ i =>
      simp [chunk] at h
      obtain ⟨h1, h2⟩ := ih _ i el h
      refine ⟨by omega, ?_⟩
      rw [h2, List.drop_drop]
      congr 2
      rw [Nat.add_mul]; omega
theorem chunk_length {α : Type} (sz : Nat) : ∀ (n : Nat) (l : List α), (chunk sz n l).length = n
  | 0, _ => rfl
  | n + 1, l => by simp [chunk, chunk_length sz n]

/-- A row of cells that nobody owns, as a slice that is only read. -/
theorem GR.ofRow {E : Env} {b : Nat} {C : Array Value} {T : TypeId} {fr : Nat × Nat} {gs : List GV} {sz n cap : Nat} (hb : E.w.heap[b]? = some (.cells C T fr)) (hO : ¬ E.O b) (hn : n ≤ cap) (hl : gs.length = n * sz)
    (hc : ∀ (j : Nat) (g : GV), gs[j]? = some g → ∃ u, C[j]? = some u ∧ GR E g u) : GR E (.sl sz (chunk sz n gs)) (.slice (some ⟨b, 0, none⟩) n cap) := by
  have hlt : b < E.w.heap.size := (Array.getElem?_eq_some_iff.1 hb).1
  have hget : ∀ (i : Nat) (el : List GV) (j : Nat) (x : GV), (chunk sz n gs)[i]? = some el → el[j]? = some x → gs[i * sz + j]? = some x ∧ j < sz := by
    intro i el j x hi hj
    obtain ⟨h1, rfl⟩ := chunk_get sz n gs i el hi
    rw [List.getElem?_take] at hj
    split at hj
    · rw [List.getElem?_drop] at hj; exact ⟨hj, by assumption⟩
    · cases hj
  have hlen := chunk_length sz n gs
  have key : GR E (.sl sz (chunk sz n gs)) (.slice (some ⟨b, 0, none⟩) (chunk sz n gs).length cap) := by
    refine .sl (fun i j => C.getD (i * sz + j) Go.undef) (by omega) hlt hO (fun i el hi => ?_) (fun i el j x hi hj => ?_) (fun i el j x hi hj => ?_)
    · obtain ⟨h1, rfl⟩ := chunk_get sz n gs i el hi
      simp only [List.length_take, List.length_drop, hl]
      have : i * sz + sz ≤ n * sz := by rw [← Nat.succ_mul]; exact Nat.mul_le_mul_right _ h1
      omega
    · obtain ⟨h1, _⟩ := hget i el j x hi hj
      obtain ⟨u, hu, _⟩ := hc _ _ h1
      simp [World.cell?, hb, Array.getD_eq_getD_getElem?, hu]
    · obtain ⟨h1, _⟩ := hget i el j x hi hj
      obtain ⟨u, hu, hg⟩ := hc _ _ h1
      simp [Array.getD_eq_getD_getElem?, hu, hg]
  rw [hlen] at key
  exact key

end
end Go.AM
end
section
set_option linter.unusedSimpArgs false
set_option linter.unusedVariables false
namespace Go.AM
open Go

/-- What a store of some cells makes of a row. -/
theorem setCells_heap (b : Nat) (T : TypeId) (fr : Nat × Nat) : ∀ (vs : List Value) (o : Nat) (w : World) (C : Array Value), w.heap[b]? = some (.cells C T fr) → o + vs.length ≤ C.size →
    ∃ C' : Array Value, (w.setCells b o vs).heap[b]? = some (.cells C' T fr) ∧ C'.size = C.size ∧ (∀ i, C'[i]? = if o ≤ i ∧ i < o + vs.length then vs[i - o]? else C[i]?) ∧
      (∀ b', b' ≠ b → (w.setCells b o vs).heap[b']? = w.heap[b']?) ∧ (w.setCells b o vs).os = w.os ∧ (w.setCells b o vs).tape = w.tape ∧ (w.setCells b o vs).output = w.output ∧ (w.setCells b o vs).heap.size = w.heap.size := by
  intro vs
  induction vs with
  | nil =>
    intro o w C hb _
    exact ⟨C, hb, rfl, fun i => by simp; intro h1 h2; omega, fun _ _ => rfl, rfl, rfl, rfl, rfl⟩
  | cons v vs ih =>
    intro o w C hb hle
    simp only [List.length_cons] at hle
    have h1 : (w.setCell ⟨b, o, none⟩ v).heap[b]? = some (.cells (C.setIfInBounds o v) T fr) := by
      simp [World.setCell, Array.getElem?_modify, hb]
    obtain ⟨C', k1, k2, k3, k4, k5, k6, k7, k8⟩ := ih (o + 1) _ _ h1 (by simp; omega)
    refine ⟨C', k1, by rw [k2]; simp, fun i => ?_, fun b' hb' => ?_, k5, k6, k7, by show ((w.setCell ⟨b, o, none⟩ v).setCells b (o + 1) vs).heap.size = _; rw [k8]; simp [World.setCell]⟩
    · rw [k3]
      by_cases hi : i = o
      · subst hi
        rw [if_neg (by omega), if_pos (by simp)]
        simp only [Nat.sub_self, List.getElem?_cons_zero]
        rw [Array.getElem?_setIfInBounds_self]
        simp; omega
      · by_cases hr : o + 1 ≤ i ∧ i < o + 1 + vs.length
        · rw [if_pos hr, if_pos (by simp; omega)]
          obtain ⟨j, hj⟩ : ∃ j, i - o = j + 1 := ⟨i - o - 1, by omega⟩
          rw [hj, List.getElem?_cons_succ]
          congr 1; omega
        · rw [if_neg hr, if_neg (by simp; omega), Array.getElem?_setIfInBounds_ne (by omega)]
    · rw [World.setCells, k4 b' hb']
      simp only [World.setCell, Array.getElem?_modify]
      rw [if_neg (by omega)]

theorem run_storeAll {P : Program} {w : World} {b o : Nat} {C : Array Value} {T : TypeId} {vs : List Value} (hb : w.heap[b]? = some (.cells C T (0, 0))) (hle : o + vs.length ≤ C.size) (h1 : ∀ v ∈ vs, v.oneCell' = true) :
    (storeCells ⟨b, o, none⟩ vs).run P w = .ok () (w.setCells b o vs) := by
  have := run_storeCells_cells (P := P) b o vs 0 w (fun j hj => by
    simp only [World.cell?, hb, Nat.add_zero, Option.isSome_none, Bool.false_eq_true, if_false]
    rw [Array.getElem?_eq_getElem (by omega)]; rfl) (fun j hj => by simp [World.frozen?, hb]) h1
  simpa using this

section
variable {P : Program} {h : List Blk} {s s' : St} {a : Act} {w : World} {L : Nat → Lc} {v : AV} {ws : List Nat} {drw : Option Nat} {nb : Nat}

/-- A row of the calls' own, after some of its cells were stored into. -/
theorem HR.storeInto {H : List Blk} (hr : HR w H L) {id b : Nat} {k k' : Blk} (hid : H[id]? = some k) (hl : k.live = true) (hbk : (L id).blk = some b) {C : Array Value} {T : TypeId} (hb : w.heap[b]? = some (.cells C T (0, 0))) {o : Nat} {vs : List Value} (hle : o + vs.length ≤ C.size)
    (hk : ∀ C' : Array Value, C'.size = C.size → (∀ i, C'[i]? = if o ≤ i ∧ i < o + vs.length then vs[i - o]? else C[i]?) → Ext (envOf w H L) (envOf (w.setCells b o vs) (H.set id k') (updL L id (L id))) →
      (w.setCells b o vs).heap[b]? = some (.cells C' T (0, 0)) → HB (envOf (w.setCells b o vs) (H.set id k') (updL L id (L id))) id k') :
    HR (w.setCells b o vs) (H.set id k') (updL L id (L id)) ∧ Ext (envOf w H L) (envOf (w.setCells b o vs) (H.set id k') (updL L id (L id))) ∧ Same w (w.setCells b o vs) H L (updL L id (L id)) [id] := by
  obtain ⟨C', k1, k2, k3, k4, k5, k6, k7, k8⟩ := setCells_heap b T (0, 0) vs o w C hb hle
  obtain ⟨e1, e2⟩ := hr.turn (w' := w.setCells b o vs) (k' := k') hid hl (L id) k5 k6 k7 (by rw [k8]; exact Nat.le_refl _) (fun b' hb' hne => k4 b' (fun e => hne (by rw [e]; exact hbk))) (.refl _ _) (fun b' hb' => .inl hb')
    (fun he => hk C' k2 k3 he k1)
  refine ⟨e1, e2, fun j hj hne => ⟨updL_ne _ _ _ (by simpa using hne), fun ⟨x, hx, lx⟩ b' hb' => k4 b' (fun e => ?_)⟩⟩
  subst e
  exact hne (by simp [hr.inj j id b' x k hx hid lx hl hb' hbk])

theorem updL_same (L : Nat → Lc) (id : Nat) : updL L id (L id) = L := by
  funext j; by_cases e : j = id
  · subst e; simp [updL]
  · simp [updL, e]

theorem i_store (hr : HR w (full h s) L) (ht : TR (envOf w (full h s) L) a s.t) {o : Oper} {t : TypeId} {p x : Operand} {Pp X : Opd} {n : Nat} (ho : o.op = .store t p x) (hs : szT P t = some n) (hp : cOpd p = some Pp) (hx : cOpd x = some X)
    (he : evI h nb s (.store n Pp X) = some (v, s', ws)) : Im w (full h s) L ((execOp a.eval o).run P w) v (full h s') ws ∧ s'.t = s.t := by
  simp only [evI] at he
  split at he
  · rename_i vp vx hP hX
    cases hcs : vx.cellsO with
    | none => simp [hcs] at he
    | some vs =>
      simp only [hcs] at he
      split at he
      · rename_i hlen
        cases hst : storeV h s vp vs with
        | none => simp [hst] at he
        | some r =>
          obtain ⟨s1, ws1⟩ := r
          simp [hst] at he
          obtain ⟨rfl, rfl, rfl⟩ := he
          obtain ⟨c1, c2⟩ := cells_ok (cOpd_ok ht hx hX) hcs
          have hq := cOpd_ok ht hp hP
          have hsz : (a.eval x).cells.toList.length = vs.length := by rw [c1.1]; simp
          -- the run, once the place is known
          have hrun : ∀ (b o' : Nat) (C : Array Value) (T : TypeId), w.heap[b]? = some (.cells C T (0, 0)) → o' + vs.length ≤ C.size → a.eval p = .pointer (some ⟨b, o', none⟩) →
              (execOp a.eval o).run P w = .ok .skip (w.setCells b o' (a.eval x).cells.toList) := by
            intro b o' C T hb hle hpe
            have hst := run_storeAll (P := P) (vs := (a.eval x).cells.toList) hb (by rw [hsz]; exact hle) (fun u hu => by
              obtain ⟨j, hj⟩ := List.getElem?_of_mem hu
              exact c2 j u (by simpa using hj))
            simp only [execOp, ho, hpe]
            unfold Instr.storeAt Instr.sureAddr storeVar
            have e0 : (a.eval x).cells.size = n := by rw [← c1.1]; exact hlen
            simp only [pure_bind, Sem.run_bind, run_sizeOf hs, Result.andThen_ok, e0, ne_eq, not_true_eq_false, if_false, Sem.run_ite, Sem.run_pure, hst]
          unfold storeV at hst
          split at hst
          · rename_i id off
            generalize hpe : a.eval p = cp at hq
            cases hq with
            | @ptr _ _ b hid hgen hbk =>
              cases hB : getB h s id with
              | none => simp [hB] at hst
              | some k =>
                cases k <;> simp [hB] at hst
                · rename_i cs
                  obtain ⟨⟨hle, hlt, hleaf⟩, rfl, rfl⟩ := hst
                  refine ⟨?_, setB_t _ _ _ _⟩
                  have hget : (full h s)[id]? = some (.cells cs) := by rw [getB_full]; exact hB
                  obtain ⟨hst0, b', T, C, hb1, hb2, hb3, hb4⟩ := hr.blk id _ hget
                  have : b' = b := by have h1 : (L id).blk = some b := hbk; have h2 : (L id).blk = some b' := hb1; rw [h1] at h2; cases h2; rfl
                  subst this
                  obtain ⟨e1, e2, e3⟩ := hr.storeInto (k' := .cells (cs.take off ++ (vs ++ cs.drop (off + vs.length)))) hget rfl hbk hb2 (o := off) (vs := (a.eval x).cells.toList) (by rw [hsz, hb3]; exact hle) (fun C' z1 z2 hext z3 => by
                    refine ⟨by rw [show (envOf _ _ _).L id = updL L id (L id) id from rfl, updL_self]; exact hst0, b', T, C', by rw [show (envOf _ _ _).L id = updL L id (L id) id from rfl, updL_self]; exact hbk, z3, by rw [z1, hb3]; simp; omega, fun j y hj => ?_⟩
                    have hl1 : (cs.take off).length = off := by simp; omega
                    by_cases hin : off ≤ j ∧ j < off + vs.length
                    · rw [List.getElem?_append_right (by omega), hl1, List.getElem?_append_left (by omega)] at hj
                      have hjl : j - off < (a.eval x).cells.size := by rw [← c1.1]; omega
                      refine ⟨(a.eval x).cells[j - off], ?_, (c1.2 _ y _ hj (Array.getElem?_eq_getElem hjl)).mono hext, c2 _ _ (Array.getElem?_eq_getElem hjl)⟩
                      rw [z2, if_pos (by rw [hsz]; exact hin)]; simp [Array.getElem?_eq_getElem hjl]
                    · have hcs : cs[j]? = some y := by
                        by_cases hlo : j < off
                        · rw [List.getElem?_append_left (by omega), List.getElem?_take_of_lt hlo] at hj; exact hj
                        · rw [List.getElem?_append_right (by omega), hl1, List.getElem?_append_right (by omega), List.getElem?_drop] at hj
                          rw [← hj]; congr 1; omega
                      obtain ⟨u, u1, u2, u3⟩ := hb4 j y hcs
                      exact ⟨u, by rw [z2, if_neg (by rw [hsz]; exact hin)]; exact u1, u2.mono hext, u3⟩)
                  rw [full_setB]
                  refine ⟨.skip, _, _, hrun b' off C T hb2 (by rw [hb3]; exact hle) hpe, .inr ⟨rfl, rfl⟩, e1, e2, e3⟩

                · rename_i T0 cs
                  obtain ⟨⟨hle, hlt, hleaf⟩, rfl, rfl⟩ := hst
                  refine ⟨?_, setB_t _ _ _ _⟩
                  have hget : (full h s)[id]? = some (.bld T0 cs) := by rw [getB_full]; exact hB
                  obtain ⟨hst0, b', C, hb1, hb2, hb3, hb4⟩ := hr.blk id _ hget
                  have : b' = b := by have h1 : (L id).blk = some b := hbk; have h2 : (L id).blk = some b' := hb1; rw [h1] at h2; cases h2; rfl
                  subst this
                  obtain ⟨e1, e2, e3⟩ := hr.storeInto (k' := .bld T0 (cs.take off ++ (vs ++ cs.drop (off + vs.length)))) hget rfl hbk hb2 (o := off) (vs := (a.eval x).cells.toList) (by rw [hsz, hb3]; exact hle) (fun C' z1 z2 hext z3 => by
                    refine ⟨by rw [show (envOf _ _ _).L id = updL L id (L id) id from rfl, updL_self]; exact hst0, b', C', by rw [show (envOf _ _ _).L id = updL L id (L id) id from rfl, updL_self]; exact hbk, z3, by rw [z1, hb3]; simp; omega, fun j y hj => ?_⟩
                    have hl1 : (cs.take off).length = off := by simp; omega
                    by_cases hin : off ≤ j ∧ j < off + vs.length
                    · rw [List.getElem?_append_right (by omega), hl1, List.getElem?_append_left (by omega)] at hj
                      have hjl : j - off < (a.eval x).cells.size := by rw [← c1.1]; omega
                      refine ⟨(a.eval x).cells[j - off], ?_, (c1.2 _ y _ hj (Array.getElem?_eq_getElem hjl)).mono hext, c2 _ _ (Array.getElem?_eq_getElem hjl)⟩
                      rw [z2, if_pos (by rw [hsz]; exact hin)]; simp [Array.getElem?_eq_getElem hjl]
                    · have hcs : cs[j]? = some y := by
                        by_cases hlo : j < off
                        · rw [List.getElem?_append_left (by omega), List.getElem?_take_of_lt hlo] at hj; exact hj
                        · rw [List.getElem?_append_right (by omega), hl1, List.getElem?_append_right (by omega), List.getElem?_drop] at hj
                          rw [← hj]; congr 1; omega
                      obtain ⟨u, u1, u2, u3⟩ := hb4 j y hcs
                      exact ⟨u, by rw [z2, if_neg (by rw [hsz]; exact hin)]; exact u1, u2.mono hext, u3⟩)
                  rw [full_setB]
                  refine ⟨.skip, _, _, hrun b' off C T0 hb2 (by rw [hb3]; exact hle) hpe, .inr ⟨rfl, rfl⟩, e1, e2, e3⟩
          · rename_i id g sz i off
            generalize hpe : a.eval p = cp at hq
            cases hB : getB h s id with
            | none => simp [hB] at hst
            | some k =>
              cases k <;> simp [hB] at hst
              rename_i sz' g' els
              obtain ⟨⟨rfl, rfl⟩, hst⟩ := hst
              cases hi : els[i]? with
              | none => simp [hi] at hst
              | some el =>
                cases hgr : grounds vs with
                | none => simp [hi, hgr] at hst
                | some gs =>
                  simp [hi, hgr] at hst
                  obtain ⟨hle, rfl, rfl⟩ := hst
                  refine ⟨?_, setB_t _ _ _ _⟩
                  have hvs := grounds_ok (E := envOf w (full h s) L) hgr
                  have hget : (full h s)[id]? = some (.rows sz g els) := by rw [getB_full]; exact hB
                  obtain ⟨hg1, ⟨hg2, hg3⟩, hrow⟩ := hr.blk id _ hget
                  cases hq with
                  | rp hid hg0 hle' hone hm =>
                    obtain ⟨b, hbk, rfl⟩ := hm hg1.symm
                    rw [hbk] at hrow
                    obtain ⟨T, C, hb2, hC1, hC2, hC3⟩ := hrow
                    obtain ⟨hel, hel2⟩ := hC3 i el hi
                    have hil : i < els.length := (List.getElem?_eq_some_iff.1 hi).1
                    have hgl : gs.length = vs.length := by rw [hvs]; simp
                    have hbound : i * sz + off + vs.length ≤ C.size := by
                      rw [hC1]
                      have : (i + 1) * sz ≤ (L id).cap * sz := Nat.mul_le_mul_right _ (by have : els.length ≤ (L id).cap := hC2; omega)
                      rw [Nat.add_mul] at this
                      show _ ≤ (L id).cap * sz
                      omega
                    obtain ⟨e1, e2, e3⟩ := hr.storeInto (k' := .rows sz g (els.set i (el.take off ++ (gs ++ el.drop (off + gs.length))))) hget rfl hbk hb2 (o := i * sz + off) (vs := (a.eval x).cells.toList) (by rw [hsz]; exact hbound) (fun C' z1 z2 hext z3 => by
                      have hLid : (envOf (w.setCells b (i * sz + off) (a.eval x).cells.toList) ((full h s).set id (.rows sz g (els.set i (el.take off ++ (gs ++ el.drop (off + gs.length)))))) (updL L id (L id))).L id = L id := by show updL L id (L id) id = _; rw [updL_self]
                      refine ⟨by rw [hLid]; exact hg1, ⟨by rw [hLid]; exact hg2, hg3⟩, ?_⟩
                      rw [hLid, show (L id).blk = some b from hbk]
                      refine ⟨T, C', z3, by rw [z1]; exact hC1, by simp; exact hC2, fun i' el' hi' => ?_⟩
                      by_cases hii : i = i'
                      · subst hii
                        rw [List.getElem?_set_self hil] at hi'
                        simp at hi'
                        subst hi'
                        have hl1 : (el.take off).length = off := by simp; omega
                        refine ⟨by simp; omega, fun j y hj => ?_⟩
                        by_cases hin : off ≤ j ∧ j < off + gs.length
                        · rw [List.getElem?_append_right (by omega), hl1, List.getElem?_append_left (by omega)] at hj
                          have hjl : j - off < (a.eval x).cells.size := by rw [← c1.1]; omega
                          refine ⟨(a.eval x).cells[j - off], ?_, ((c1.2 (j - off) (.g y) _ (by rw [hvs]; simp [hj]) (Array.getElem?_eq_getElem hjl)).inv_g).mono hext⟩
                          rw [z2, if_pos (by rw [hsz]; omega)]
                          rw [show i * sz + j - (i * sz + off) = j - off by omega]
                          simp [Array.getElem?_eq_getElem hjl]
                        · have hcs : el[j]? = some y := by
                            by_cases hlo : j < off
                            · rw [List.getElem?_append_left (by omega), List.getElem?_take_of_lt hlo] at hj; exact hj
                            · rw [List.getElem?_append_right (by omega), hl1, List.getElem?_append_right (by omega), List.getElem?_drop] at hj
                              rw [← hj]; congr 1; omega
                          obtain ⟨u, u1, u2⟩ := hel2 j y hcs
                          exact ⟨u, by rw [z2, if_neg (by rw [hsz]; omega)]; exact u1, u2.mono hext⟩
                      · rw [List.getElem?_set_ne hii] at hi'
                        obtain ⟨q1, q2⟩ := hC3 i' el' hi'
                        refine ⟨q1, fun j y hj => ?_⟩
                        obtain ⟨u, u1, u2⟩ := q2 j y hj
                        have hjs : j < sz := by rw [← q1]; exact (List.getElem?_eq_some_iff.1 hj).1
                        refine ⟨u, ?_, u2.mono hext⟩
                        rw [z2, if_neg]
                        · exact u1
                        · rw [hsz]
                          rintro ⟨y1, y2⟩
                          have hij : i < i' ∨ i' < i := by omega
                          rcases hij with hij | hij
                          · have := Nat.mul_le_mul_right sz (show i + 1 ≤ i' by omega)
                            rw [Nat.add_mul] at this; omega
                          · have := Nat.mul_le_mul_right sz (show i' + 1 ≤ i by omega)
                            rw [Nat.add_mul] at this; omega)
                    rw [full_setB]
                    exact ⟨.skip, _, _, hrun b (i * sz + off) C T hb2 hbound hpe, .inr ⟨rfl, rfl⟩, e1, e2, e3⟩
          · cases hst
      · cases he
  · cases he

end
end Go.AM
end
section
set_option linter.unusedSimpArgs false
set_option linter.unusedVariables false
namespace Go.AM
open Go

/-- What is appended: so many elements, these cells. -/
def Src (P : Program) (u : TypeId) (x : Value) (size n : Nat) (news : List Value) (w : World) : Prop :=
  ((∃ d, P.underlying u = some d ∧ ((∃ e, d = .slice e) ∨ d = .string)) ∧ (∀ w1, (Builtin.lenOf x).run P w1 = .ok n w1) ∧ ∀ w1 : World, w1.heap = w.heap → (Builtin.firstCells size n x).run P w1 = .ok news.toArray w1)

section
variable {P : Program} {w : World} {t u ty e : TypeId} {size bytes : Nat}

theorem info_of (hs : szT P e = some size) (hb : bytesT P e = some bytes) : ∃ i, P.info? e = some i ∧ i.size = size ∧ i.bytes = bytes := by
  unfold szT at hs; unfold bytesT at hb
  cases hi : P.info? e with
  | none => simp [hi] at hs
  | some i => simp [hi] at hs hb; exact ⟨i, rfl, hs, hb⟩

theorem run_app_room (ht : P.underlying t = some (.slice e)) (hs : szT P e = some size) (hby : bytesT P e = some bytes) (A : Option Addr) (sLen sCap n : Nat) (x : Value) (news : List Value) (hsrc : Src P u x size n news w) (hroom : sLen + n ≤ sCap) (w2 : World)
    (hst : match A with | none => w2 = w | some a => (storeCells (a.add (sLen * size)) news).run P w = .ok () w2) :
    (Builtin.append_ #[t, u] ty #[.slice A sLen sCap, x]).run P w = .ok (.slice A (sLen + n) sCap) w2 := by
  obtain ⟨i, hi, rfl, rfl⟩ := info_of hs hby
  obtain ⟨⟨d, hu, hd⟩, hl, hf⟩ := hsrc
  have hf' := hf w rfl
  rcases hd with ⟨e', rfl⟩ | rfl <;> cases A <;>
    simp only [] at hst <;>
    simp [Builtin.append_, run_underlying ht, run_underlying hu, sizeOf, typeInfo, hi, hl, hroom, hf', hst]

/-- The world behind an append that has found no room. -/
def grownW (w : World) (need old : Nat) (e : TypeId) (z : Value) (olds news : List Value) : World :=
  w.drew.alloc (.cells (olds.toArray ++ (news.toArray ++ Builtin.zeroCells z.cells (grownCap w need old e - need))) e)

theorem run_app_grow (ht : P.underlying t = some (.slice e)) (hs : szT P e = some size) (hby : bytesT P e = some bytes) {z : Value} (hz : (P.info? e).bind (·.zero) = some z) (A : Option Addr) (sLen sCap n : Nat) (x : Value) (olds news : List Value) (hsrc : Src P u x size n news w)
    (hroom : ¬ sLen + n ≤ sCap) (hn : sLen + n ≤ 9223372036854775807) (hbytes : (sLen + n) * bytes ≤ 140737488355328)
    (hold : ∀ w1 : World, w1.heap = w.heap → (Builtin.firstCells size sLen (.slice A sLen sCap)).run P w1 = .ok olds.toArray w1) :
    (Builtin.append_ #[t, u] ty #[.slice A sLen sCap, x]).run P w =
      .ok (.slice (some ⟨w.heap.size, 0, none⟩) (sLen + n) (grownCap w (sLen + n) sCap e)) (grownW w (sLen + n) sCap e z olds news) := by
  obtain ⟨i, hi, rfl, rfl⟩ := info_of hs hby
  obtain ⟨⟨d, hu, hd⟩, hl, hf⟩ := hsrc
  have hf' := hf w.drew rfl
  have ho' := hold w.drew rfl
  have hfit := growslice_fits (old := sCap) (need := sLen + n) (bytes := i.bytes) (by omega) hbytes
  have hz' : i.zero = some z := by simpa [hi] using hz
  have hmax' : ¬ (9223372036854775807 < (sLen : Int) + (n : Int)) := by omega
  have hfit' : ¬ (281474976710656 < Builtin.nextslicecap (sLen + n) sCap * i.bytes) := by omega
  rcases hd with ⟨e', rfl⟩ | rfl
  · simp [Builtin.append_, run_underlying ht, run_underlying hu, sizeOf, typeInfo, zeroValue, hi, hz', hl, hroom, hmax', hfit', Question.forced, grownCap, newRow, hf', ho', grownW]
  · simp [Builtin.append_, run_underlying ht, run_underlying hu, sizeOf, typeInfo, zeroValue, hi, hz', hl, hroom, hmax', hfit', Question.forced, grownCap, newRow, hf', ho', grownW]

theorem zero_nil (z : Value) : Builtin.zeroCells z.cells 0 = #[] := by
  apply Array.eq_empty_of_size_eq_zero; simp [Builtin.zeroCells]
theorem zero_nil' (z : Value) (n : Nat) (h : z.cells.size = 0) : Builtin.zeroCells z.cells n = #[] := by
  apply Array.eq_empty_of_size_eq_zero; simp [Builtin.zeroCells, h]

theorem run_appZ_room (ht : P.underlying t = some (.slice e)) (hs : szT P e = some size) (hby : bytesT P e = some bytes) (A : Option Addr) (sLen sCap n : Nat) (x : Value) (news : List Value) {z : Value} (hz : (P.info? e).bind (·.zero) = some z) (hzs : z.cells.size = size) {k : IntKind} (hu : P.underlying u = some (.int k)) (hn1 : n ≤ 281474976710656) (hn2 : n * bytes ≤ 281474976710656) (hroom : sLen + n ≤ sCap) (w2 : World)
    (hst : match A with | none => w2 = w | some a => (storeCells (a.add (sLen * size)) (Builtin.zeroCells z.cells n).toList).run P w = .ok () w2) :
    (Builtin.append_ #[t, u] ty #[.slice A sLen sCap, .int .i64 n]).run P w = .ok (.slice A (sLen + n) sCap) w2 := by
  obtain ⟨i, hi, rfl, rfl⟩ := info_of hs hby
  have hw : IntKind.i64.wrap (n : Int) = n := IntWalk.i64_in _ (by omega)
  have hz' : i.zero = some z := by simpa [hi] using hz
  have h0 : ¬ ((n : Int) < 0) := by omega
  have h1 : ¬ ((n : Int) * (i.bytes : Int) > 281474976710656) := by
    have : ((n * i.bytes : Nat) : Int) ≤ 281474976710656 := by omega
    rw [Int.natCast_mul] at this; omega
  have h1' : ¬ (281474976710656 < (n : Int) * (i.bytes : Int)) := h1
  by_cases hnz : n * i.size = 0
  · have hzero : Builtin.zeroCells z.cells n = #[] := by
      rcases Nat.mul_eq_zero.mp hnz with h | h
      · subst h; exact zero_nil z
      · exact zero_nil' z n (by omega)
    cases A <;> simp only [] at hst <;>
      simp [Builtin.append_, run_underlying ht, run_underlying hu, sizeOf, typeInfo, hi, asInt, asIntOf, hw, h0, h1', hroom, hnz, hzero] at hst ⊢ <;>
      simp_all [storeCells]
  · cases A <;> simp only [] at hst <;>
      simp [Builtin.append_, run_underlying ht, run_underlying hu, sizeOf, typeInfo, zeroValue, hi, hz', asInt, asIntOf, hw, h0, h1', hroom, hnz, hst]

theorem run_appZ_grow (ht : P.underlying t = some (.slice e)) (hs : szT P e = some size) (hby : bytesT P e = some bytes) {z : Value} (hz : (P.info? e).bind (·.zero) = some z) (hzs : z.cells.size = size) (A : Option Addr) (sLen sCap n : Nat) (olds : List Value) {k : IntKind} (hu : P.underlying u = some (.int k)) (hn1 : n ≤ 281474976710656) (hn2 : n * bytes ≤ 281474976710656)
    (hroom : ¬ sLen + n ≤ sCap) (hn : sLen + n ≤ 9223372036854775807) (hbytes : (sLen + n) * bytes ≤ 140737488355328)
    (hold : ∀ w1 : World, w1.heap = w.heap → (Builtin.firstCells size sLen (.slice A sLen sCap)).run P w1 = .ok olds.toArray w1) :
    (Builtin.append_ #[t, u] ty #[.slice A sLen sCap, .int .i64 n]).run P w =
      .ok (.slice (some ⟨w.heap.size, 0, none⟩) (sLen + n) (grownCap w (sLen + n) sCap e)) (grownW w (sLen + n) sCap e z olds (Builtin.zeroCells z.cells n).toList) := by
  obtain ⟨i, hi, rfl, rfl⟩ := info_of hs hby
  have hw : IntKind.i64.wrap (n : Int) = n := IntWalk.i64_in _ (by omega)
  have ho' := hold w.drew rfl
  have hfit := growslice_fits (old := sCap) (need := sLen + n) (bytes := i.bytes) (by omega) hbytes
  have hz' : i.zero = some z := by simpa [hi] using hz
  have h0 : ¬ ((n : Int) < 0) := by omega
  have h1' : ¬ (281474976710656 < (n : Int) * (i.bytes : Int)) := by
    have : ((n * i.bytes : Nat) : Int) ≤ 281474976710656 := by omega
    rw [Int.natCast_mul] at this; omega
  have hmax' : ¬ (9223372036854775807 < (sLen : Int) + (n : Int)) := by omega
  have hfit' : ¬ (281474976710656 < Builtin.nextslicecap (sLen + n) sCap * i.bytes) := by omega
  by_cases hnz : n * i.size = 0
  · have hzero : Builtin.zeroCells z.cells n = #[] := by
      rcases Nat.mul_eq_zero.mp hnz with h | h
      · subst h; exact zero_nil z
      · exact zero_nil' z n (by omega)
    simp [Builtin.append_, run_underlying ht, run_underlying hu, sizeOf, typeInfo, zeroValue, hi, hz', asInt, asIntOf, hw, h0, h1', hroom, hmax', hfit', Question.forced, grownCap, newRow, hnz, ho', grownW, hzero]
  · simp [Builtin.append_, run_underlying ht, run_underlying hu, sizeOf, typeInfo, zeroValue, hi, hz', asInt, asIntOf, hw, h0, h1', hroom, hmax', hfit', Question.forced, grownCap, newRow, hnz, ho', grownW]

end
end Go.AM
end
section
set_option linter.unusedSimpArgs false
set_option linter.unusedVariables false
namespace Go.AM
open Go

/-- Elements and the cells that they are. -/
def NewIs (E : Env) (sz : Nat) (ys : List (List GV)) (news : List Value) : Prop :=
  news.length = ys.length * sz ∧ ∀ (i : Nat) (el : List GV), ys[i]? = some el → el.length = sz ∧ ∀ (j : Nat) (g : GV), el[j]? = some g → ∃ u, news[i * sz + j]? = some u ∧ GR E g u

theorem NewIs.one {E : Env} {sz : Nat} {ys : List (List GV)} {news : List Value} (h : NewIs E sz ys news) : ∀ u ∈ news, u.oneCell' = true := by
  intro u hu
  obtain ⟨k, hk⟩ := List.getElem?_of_mem hu
  have hlt : k < ys.length * sz := by rw [← h.1]; exact (List.getElem?_eq_some_iff.1 hk).1
  have hsz : 0 < sz := by
    rcases Nat.eq_zero_or_pos sz with e | e
    · subst e; simp at hlt
    · exact e
  have hi : k / sz < ys.length := Nat.div_lt_of_lt_mul (by rw [Nat.mul_comm]; exact hlt)
  obtain ⟨h1, h2⟩ := h.2 (k / sz) _ (List.getElem?_eq_getElem hi)
  have hj : k % sz < (ys[k / sz]).length := by rw [h1]; exact Nat.mod_lt _ hsz
  obtain ⟨u', e1, e2⟩ := h2 (k % sz) _ (List.getElem?_eq_getElem hj)
  rw [Nat.mul_comm, Nat.div_add_mod, hk] at e1
  cases e1
  exact e2.one

theorem mul_lt_row {i j i' sz : Nat} (h : i < i') (hj : j < sz) : i * sz + j < i' * sz := by
  have := Nat.mul_le_mul_right sz (show i + 1 ≤ i' by omega)
  rw [Nat.add_mul] at this; omega

section
variable {P : Program} {h : List Blk} {s s' : St} {a : Act} {w : World} {L : Nat → Lc} {v : AV} {ws : List Nat}

theorem appV_ok (hr : HR w (full h s) L) {t u ty e : TypeId} {sz bytes : Nat} {z : Value} (hzs : z.cells.size = sz) {x : AV} {cx y : Value} {ys : List (List GV)} {news : List Value} (hx : AR (envOf w (full h s) L) x cx) (hy : NewIs (envOf w (full h s) L) sz ys news)
    (hroom : ∀ (A : Option Addr) (sLen sCap : Nat) (w2 : World), sLen + ys.length ≤ sCap → (match A with | none => w2 = w | some a => (storeCells (a.add (sLen * sz)) news).run P w = .ok () w2) →
      (Builtin.append_ #[t, u] ty #[.slice A sLen sCap, y]).run P w = .ok (.slice A (sLen + ys.length) sCap) w2)
    (hgrow : ∀ (A : Option Addr) (sLen sCap : Nat) (olds : List Value), ¬ sLen + ys.length ≤ sCap → sLen + ys.length ≤ 9223372036854775807 → (sLen + ys.length) * bytes ≤ 140737488355328 →
      (∀ w1 : World, w1.heap = w.heap → (Builtin.firstCells sz sLen (.slice A sLen sCap)).run P w1 = .ok olds.toArray w1) →
      (Builtin.append_ #[t, u] ty #[.slice A sLen sCap, y]).run P w = .ok (.slice (some ⟨w.heap.size, 0, none⟩) (sLen + ys.length) (grownCap w (sLen + ys.length) sCap e)) (grownW w (sLen + ys.length) sCap e z olds news))
    (he : appV h s sz bytes x ys = some (v, s', ws)) :
    (∃ cv w' L', (Builtin.append_ #[t, u] ty #[cx, y]).run P w = .ok cv w' ∧ AR (envOf w' (full h s') L') v cv ∧ HR w' (full h s') L' ∧ Ext (envOf w (full h s) L) (envOf w' (full h s') L') ∧ Same w w' (full h s) L L' ws) ∧ s'.t = s.t := by
  have hgrows : ∀ (need old : Nat) (olds : List Value), Grows w (grownW w need old e z olds news) := fun need old olds => (Grows.drew w (w.drawn + 1)).trans (Grows.push _ _)
  -- a new row
  have fresh : ∀ (need old : Nat) (olds : List Value) (els : List (List GV)), NewIs (envOf w (full h s) L) sz els olds → els.length + ys.length = need →
      RowsIn (envOf w (full h s) L) (olds.toArray ++ (news.toArray ++ Builtin.zeroCells z.cells (grownCap w need old e - need))) sz (grownCap w need old e) (els ++ ys) := by
    intro need old olds els hels hneed
    have hge := grownCap_ge w need old e
    refine ⟨?_, by rw [List.length_append, hneed]; exact hge, fun i el hi => ?_⟩
    · simp only [Array.size_append, List.size_toArray, size_zeroCells, hzs, hels.1, hy.1]
      rw [← Nat.add_assoc, ← Nat.add_mul, ← Nat.add_mul, hneed, Nat.add_sub_of_le hge]
    · by_cases hlt : i < els.length
      · rw [List.getElem?_append_left hlt] at hi
        obtain ⟨h1, h2⟩ := hels.2 i el hi
        refine ⟨h1, fun j g hj => ?_⟩
        obtain ⟨q, q1, q2⟩ := h2 j g hj
        refine ⟨q, ?_, q2⟩
        rw [Array.getElem?_append_left (by simpa using (List.getElem?_eq_some_iff.1 q1).1)]
        simpa using q1
      · rw [List.getElem?_append_right (by omega)] at hi
        obtain ⟨h1, h2⟩ := hy.2 _ el hi
        refine ⟨h1, fun j g hj => ?_⟩
        obtain ⟨q, q1, q2⟩ := h2 j g hj
        refine ⟨q, ?_, q2⟩
        have hle : els.length * sz ≤ i * sz + j := Nat.le_trans (Nat.mul_le_mul_right sz (by omega : els.length ≤ i)) (Nat.le_add_right _ _)
        rw [Array.getElem?_append_right (by simp only [List.size_toArray, hels.1]; exact hle), Array.getElem?_append_left]
        · simp only [List.size_toArray, hels.1, List.getElem?_toArray]
          rw [← q1]; congr 1
          rw [Nat.sub_mul]
          have := Nat.mul_le_mul_right sz (by omega : els.length ≤ i)
          omega
        · have := (List.getElem?_eq_some_iff.1 q1).1
          simp only [List.size_toArray, hels.1]
          rw [Nat.sub_mul] at this
          have := Nat.mul_le_mul_right sz (by omega : els.length ≤ i)
          omega
  have hempty : NewIs (envOf w (full h s) L) sz [] [] := ⟨by simp, by simp⟩
  unfold appV at he
  split at he
  · -- nothing is appended
    have hn0 : news = [] := List.eq_nil_of_length_eq_zero (by have := hy.1; simpa using this)
    subst hn0
    have same : ∀ (A : Option Addr) (n cap : Nat), cx = .slice A n cap → n ≤ cap → (Builtin.append_ #[t, u] ty #[cx, y]).run P w = .ok cx w := by
      intro A n cap e1 e2
      subst e1
      have := hroom A n cap w (by simpa using e2) (by cases A <;> simp [storeCells])
      simpa using this
    split at he
    · simp at he
      obtain ⟨rfl, rfl, rfl⟩ := he
      have hq := hx.inv_g
      cases hq
      refine ⟨⟨_, w, L, same none 0 0 rfl (Nat.le_refl _), .g .nsl, hr, Ext.refl _, fun _ _ _ => ⟨rfl, fun _ _ _ => rfl⟩⟩, rfl⟩
    · split at he
      · rename_i hc
        obtain ⟨rfl, hcur⟩ := hc
        simp at he
        obtain ⟨rfl, rfl, rfl⟩ := he
        obtain ⟨hid, hg0, hgen, hm⟩ := ms_ok hr hcur hx
        obtain ⟨A, cap, e1, e2⟩ := hm.slice
        exact ⟨⟨cx, w, L, same A _ cap e1 e2, hx, hr, Ext.refl _, fun _ _ _ => ⟨rfl, fun _ _ _ => rfl⟩⟩, rfl⟩
      · cases he
    · cases he
  · rename_i hne
    have hpos : 0 < ys.length := by
      cases ys with
      | nil => exact absurd rfl hne
      | cons => simp
    split at he
    · -- to nil
      split at he
      · rename_i hrm
        simp at he
        obtain ⟨rfl, rfl, rfl⟩ := he
        have hrm' : ys.length ≤ 140737488355328 ∧ ys.length * bytes ≤ 140737488355328 := by simpa [room] using hrm
        have hq := hx.inv_g
        cases hq
        have hrun := hgrow none 0 0 [] (by omega) (by omega) (by simpa using hrm'.2) (fun w1 _ => by simp [Builtin.firstCells])
        obtain ⟨L', k1, k2, k3, k4⟩ := hr.newRows (hgrows (0 + ys.length) 0 []) sz ys (grownCap w (0 + ys.length) 0 e) _ e w.heap.size (Nat.le_refl _) (heap_alloc_new w.drew _) (by simpa using fresh (0 + ys.length) 0 [] [] hempty (by simp)) []
        rw [full_length] at k4
        refine ⟨⟨_, _, L', hrun, ?_, ?_, ?_, k3⟩, rfl⟩ <;> rw [full_push]
        · simpa using k4
        · exact k1
        · exact k2
      · cases he
    · -- to a row of the calls' own
      rename_i id g sz' off len
      cases hB : getB h s id with
      | none => simp [hB] at he
      | some k =>
        cases k <;> simp [hB] at he
        rename_i sz2 g' els
        obtain ⟨⟨rfl, rfl, rfl⟩, he⟩ := he
        have hcur : cur h s id g = true := by simp [cur, hB]
        obtain ⟨hid, hg0, hgen, hm⟩ := ms_ok hr hcur hx
        have hget : (full h s)[id]? = some (.rows sz g els) := by rw [getB_full]; exact hB
        obtain ⟨hg1, ⟨hg2, hg3⟩, hrow⟩ := hr.blk id _ hget
        have hg1' : (L id).gen = g := hg1
        have hg2' : (L id).st = false := hg2
        split at he
        · -- there is room
          rename_i hfit
          simp at he
          obtain ⟨rfl, rfl, rfl⟩ := he
          cases hbk : (L id).blk with
          | none =>
            have : els = [] := by
              have hb' : (envOf w (full h s) L).L id = L id := rfl
              rw [hb', hbk] at hrow; exact hrow.1
            subst this; simp only [List.length_nil] at hfit; omega
          | some b =>
            have hb' : (envOf w (full h s) L).L id = L id := rfl
            rw [hb', hbk] at hrow
            obtain ⟨T, C, hb2, hC1, hC2, hC3⟩ := hrow
            unfold MsOk at hm
            rw [hbk] at hm
            obtain ⟨A, c, rfl, hoc, hlc, hA⟩ := hm
            have hA' : A = ⟨b, off * sz, none⟩ := hA.resolve_right (by omega)
            subst hA'
            have hC1' : C.size = (L id).cap * sz := hC1
            have hbound : (off * sz + len * sz) + news.length ≤ C.size := by
              rw [hC1', hy.1, ← Nat.add_mul, ← Nat.add_mul]; exact Nat.mul_le_mul_right _ (by omega)
            have hst := run_storeAll (P := P) hb2 hbound hy.one
            have hrun := hroom (some ⟨b, off * sz, none⟩) len c (w.setCells b (off * sz + len * sz) news) (by omega) (by simp only [add_none]; exact hst)
            obtain ⟨e1, e2, e3⟩ := hr.storeInto (k' := .rows sz g (els.take (off + len) ++ (ys ++ els.drop (off + (len + ys.length))))) hget rfl hbk hb2 (o := off * sz + len * sz) (vs := news) hbound (fun C' z1 z2 hext z3 => by
              have hLid : (envOf (w.setCells b (off * sz + len * sz) news) ((full h s).set id (.rows sz g (els.take (off + len) ++ (ys ++ els.drop (off + (len + ys.length)))))) (updL L id (L id))).L id = L id := by show updL L id (L id) id = _; rw [updL_self]
              refine ⟨by rw [hLid]; exact hg1, ⟨by rw [hLid]; exact hg2, hg3⟩, ?_⟩
              rw [hLid, hbk]
              have hl1 : (els.take (off + len)).length = off + len := by simp; omega
              refine ⟨T, C', z3, by rw [z1]; exact hC1, ?_, fun i el hi => ?_⟩
              · have : els.length ≤ (L id).cap := hC2
                simp; omega
              · by_cases hin : off + len ≤ i ∧ i < off + len + ys.length
                · rw [List.getElem?_append_right (by omega), hl1, List.getElem?_append_left (by omega)] at hi
                  obtain ⟨q1, q2⟩ := hy.2 _ el hi
                  refine ⟨q1, fun j gv hj => ?_⟩
                  obtain ⟨uu, u1, u2⟩ := q2 j gv hj
                  have hjs : j < sz := by rw [← q1]; exact (List.getElem?_eq_some_iff.1 hj).1
                  refine ⟨uu, ?_, u2.mono hext⟩
                  have hlow : (off + len) * sz ≤ i * sz := Nat.mul_le_mul_right _ hin.1
                  have hhigh : i * sz + j < (off + len + ys.length) * sz := mul_lt_row hin.2 hjs
                  rw [Nat.add_mul] at hlow
                  rw [Nat.add_mul, Nat.add_mul] at hhigh
                  rw [z2, if_pos (by rw [hy.1]; omega), ← u1]
                  congr 1
                  rw [Nat.sub_mul, Nat.add_mul]; omega
                · have hcs : els[i]? = some el := by
                    by_cases hlo : i < off + len
                    · rw [List.getElem?_append_left (by omega), List.getElem?_take_of_lt hlo] at hi; exact hi
                    · rw [List.getElem?_append_right (by omega), hl1, List.getElem?_append_right (by omega), List.getElem?_drop] at hi
                      rw [← hi]; congr 1; omega
                  obtain ⟨q1, q2⟩ := hC3 i el hcs
                  refine ⟨q1, fun j gv hj => ?_⟩
                  obtain ⟨uu, u1, u2⟩ := q2 j gv hj
                  have hjs : j < sz := by rw [← q1]; exact (List.getElem?_eq_some_iff.1 hj).1
                  refine ⟨uu, ?_, u2.mono hext⟩
                  rw [z2, if_neg]
                  · exact u1
                  · rw [hy.1]
                    rintro ⟨y1, y2⟩
                    have hio : i < off + len ∨ off + len + ys.length ≤ i := by omega
                    rcases hio with hio | hio
                    · have := mul_lt_row hio hjs
                      rw [Nat.add_mul] at this; omega
                    · have := Nat.mul_le_mul_right sz hio
                      rw [Nat.add_mul, Nat.add_mul] at this; omega)
            refine ⟨⟨_, _, _, hrun, ?_, ?_, ?_, e3⟩, setB_t _ _ _ _⟩ <;> rw [full_setB]
            · refine .ms (by simpa [envOf] using hid) ?_ ?_ rfl (fun _ => ?_) (fun _ => ?_)
              · show 0 < (updL L id (L id) id).gen; rw [updL_self]; exact hg0
              · show g ≤ (updL L id (L id) id).gen; rw [updL_self, hg1']; exact Nat.le_refl _
              · show MsOk (updL L id (L id) id) _ _ _ _; rw [updL_self]
                unfold MsOk; rw [hbk]
                exact ⟨_, c, rfl, hoc, by omega, .inl rfl⟩
              · show g = 1 ↔ (updL L id (L id) id).blk = none; rw [updL_self]; exact ms_nil hr hcur hx
            · exact e1
            · exact e2
        · -- it may go on in place, or elsewhere
          rename_i hfit
          simp at he
          obtain ⟨⟨rfl, hle, hrm⟩, rfl, rfl, rfl⟩ := he
          have hrm' : len + ys.length ≤ 140737488355328 ∧ (len + ys.length) * bytes ≤ 140737488355328 := by simpa [room] using hrm
          -- the elements that stay
          have hb' : (envOf w (full h s) L).L id = L id := rfl
          have stay : ∀ (k' : Blk) (lc : Lc), k' = .rows sz (g + 1) (els.take len ++ ys) → True := fun _ _ _ => trivial
          cases hbk : (L id).blk with
          | none =>
            rw [hb', hbk] at hrow
            obtain ⟨rfl, hcap0⟩ := hrow
            unfold MsOk at hm
            rw [hbk] at hm
            obtain ⟨rfl, _, rfl⟩ := hm
            have hrun := hgrow none 0 0 [] (by omega) (by omega) hrm'.2 (fun w1 _ => by simp [Builtin.firstCells])
            have hfr := fresh (0 + ys.length) 0 [] [] hempty (by simp)
            obtain ⟨e1, e2⟩ := hr.turn (w' := grownW w (0 + ys.length) 0 e z [] news) (k' := .rows sz (g + 1) ([] ++ ys)) hget rfl ⟨some w.heap.size, g + 1, grownCap w (0 + ys.length) 0 e, false⟩ rfl rfl rfl (hgrows _ _ _).size (fun b hb _ => (hgrows _ _ _).old b hb)
              (.inr ⟨trivial, hg2', by simp only [hg1']; omega⟩) (by intro b hb; simp at hb; right; omega) (fun hext => by
                have hLid : (envOf (grownW w (0 + ys.length) 0 e z [] news) ((full h s).set id (.rows sz (g + 1) ([] ++ ys))) (updL L id ⟨some w.heap.size, g + 1, grownCap w (0 + ys.length) 0 e, false⟩)).L id = ⟨some w.heap.size, g + 1, grownCap w (0 + ys.length) 0 e, false⟩ := updL_self _ _ _
                refine ⟨by rw [hLid], ⟨by rw [hLid], by omega⟩, ?_⟩
                rw [hLid]
                exact ⟨e, _, (heap_alloc_new w.drew _), hfr.mono hext⟩)
            refine ⟨⟨_, _, updL L id ⟨some w.heap.size, g + 1, grownCap w (0 + ys.length) 0 e, false⟩, hrun, ?_, ?_, ?_, fun j hj hne => ⟨updL_ne _ _ _ (by simpa using hne), (same_grow hr (hgrows _ _ _) [] j hj (by simp)).2⟩⟩, setB_t _ _ _ _⟩ <;> rw [full_setB]
            · simp only [List.take_nil, List.nil_append, Nat.zero_add] at *
              refine .ms (by simpa [envOf] using hid) ?_ ?_ rfl (fun _ => ?_) (fun _ => ?_)
              · show 0 < (updL L id _ id).gen; rw [updL_self]; exact Nat.succ_pos _
              · show g + 1 ≤ (updL L id _ id).gen; rw [updL_self]; exact Nat.le_refl _
              · show MsOk (updL L id _ id) _ _ _ _; rw [updL_self]
                exact ⟨_, _, rfl, by simp, by have := grownCap_ge w ys.length 0 e; omega, .inl (by simp)⟩
              · show g + 1 = 1 ↔ (updL L id _ id).blk = none; rw [updL_self]; constructor
                · intro e; omega
                · intro e; cases e
            · simpa using e1
            · simpa using e2
          | some b =>
            rw [hb', hbk] at hrow
            obtain ⟨T, C, hb2, hC1, hC2, hC3⟩ := hrow
            unfold MsOk at hm
            rw [hbk] at hm
            obtain ⟨A, c, rfl, hoc, hlc, hA⟩ := hm
            simp only [Nat.zero_add, Nat.zero_mul] at hoc hA
            have hC1' : C.size = (L id).cap * sz := hC1
            have hC2' : els.length ≤ (L id).cap := hC2
            have hblt : b < w.heap.size := (Array.getElem?_eq_some_iff.1 hb2).1
            by_cases hin : len + ys.length ≤ c
            · -- in place
              have hA' : A = ⟨b, 0, none⟩ := hA.resolve_right (by omega)
              subst hA'
              have hbound : (0 + len * sz) + news.length ≤ C.size := by
                rw [hC1', hy.1, Nat.zero_add, ← Nat.add_mul]; exact Nat.mul_le_mul_right _ (by omega)
              have hst := run_storeAll (P := P) hb2 hbound hy.one
              have hrun := hroom (some ⟨b, 0, none⟩) len c (w.setCells b (0 + len * sz) news) hin (by simp only [add_none]; exact hst)
              obtain ⟨C', z3, z1, z2, z4, z5, z6, z7, z8⟩ := setCells_heap b T (0, 0) news (0 + len * sz) w C hb2 hbound
              have hl1 : (els.take len).length = len := by simp; omega
              obtain ⟨e1, e2⟩ := hr.turn (w' := w.setCells b (0 + len * sz) news) (k' := .rows sz (g + 1) (els.take len ++ ys)) hget rfl ⟨some b, g + 1, (L id).cap, false⟩ z5 z6 z7 (by rw [z8]; exact Nat.le_refl _) (fun b' hb' hne => z4 b' (fun e => hne (by rw [e]; exact hbk)))
                (.inr ⟨trivial, hg2', by simp only [hg1']; omega⟩) (by intro b' hb'; simp at hb'; left; rw [← hb']; exact hbk) (fun hext => by
                  have hLid : (envOf (w.setCells b (0 + len * sz) news) ((full h s).set id (.rows sz (g + 1) (els.take len ++ ys))) (updL L id ⟨some b, g + 1, (L id).cap, false⟩)).L id = ⟨some b, g + 1, (L id).cap, false⟩ := updL_self _ _ _
                  refine ⟨by rw [hLid], ⟨by rw [hLid], by omega⟩, ?_⟩
                  rw [hLid]
                  refine ⟨T, C', z3, by rw [z1]; exact hC1, ?_, fun i el hi => ?_⟩
                  · simp; omega
                  · by_cases hii : len ≤ i
                    · rw [List.getElem?_append_right (by omega), hl1] at hi
                      obtain ⟨q1, q2⟩ := hy.2 _ el hi
                      have hil : i - len < ys.length := (List.getElem?_eq_some_iff.1 hi).1
                      refine ⟨q1, fun j gv hj => ?_⟩
                      obtain ⟨uu, u1, u2⟩ := q2 j gv hj
                      have hjs : j < sz := by rw [← q1]; exact (List.getElem?_eq_some_iff.1 hj).1
                      refine ⟨uu, ?_, u2.mono hext⟩
                      have hlow : len * sz ≤ i * sz := Nat.mul_le_mul_right _ hii
                      have hhigh : i * sz + j < (len + ys.length) * sz := mul_lt_row (by omega) hjs
                      rw [Nat.add_mul] at hhigh
                      rw [z2, if_pos (by rw [hy.1]; omega), ← u1]
                      congr 1
                      rw [Nat.sub_mul]; omega
                    · rw [List.getElem?_append_left (by omega), List.getElem?_take_of_lt (by omega)] at hi
                      obtain ⟨q1, q2⟩ := hC3 i el hi
                      refine ⟨q1, fun j gv hj => ?_⟩
                      obtain ⟨uu, u1, u2⟩ := q2 j gv hj
                      have hjs : j < sz := by rw [← q1]; exact (List.getElem?_eq_some_iff.1 hj).1
                      refine ⟨uu, ?_, u2.mono hext⟩
                      rw [z2, if_neg]
                      · exact u1
                      · rintro ⟨y1, y2⟩
                        have := mul_lt_row (show i < len by omega) hjs
                        omega)
              refine ⟨⟨_, _, updL L id ⟨some b, g + 1, (L id).cap, false⟩, hrun, ?_, ?_, ?_, fun j hj hne => ⟨updL_ne _ _ _ (by simpa using hne), fun ⟨xx, hx', lx⟩ b' hb' => z4 b' (fun e => ?_)⟩⟩, setB_t _ _ _ _⟩
              · rw [full_setB]
                refine .ms (by simpa [envOf] using hid) ?_ ?_ rfl (fun _ => ?_) (fun _ => ?_)
                · show 0 < (updL L id _ id).gen; rw [updL_self]; exact Nat.succ_pos _
                · show g + 1 ≤ (updL L id _ id).gen; rw [updL_self]; exact Nat.le_refl _
                · show MsOk (updL L id _ id) _ _ _ _; rw [updL_self]
                  exact ⟨_, c, rfl, by simp; omega, by omega, .inl (by simp)⟩
                · show g + 1 = 1 ↔ (updL L id _ id).blk = none; rw [updL_self]; constructor
                  · intro e; omega
                  · intro e; cases e
              · rw [full_setB]; exact e1
              · rw [full_setB]; exact e2
              · subst e
                exact hne (by simp [hr.inj j id b' xx _ hx' hget lx rfl hb' hbk])
            · -- elsewhere
              have holds : NewIs (envOf w (full h s) L) sz (els.take len) ((C.toList.take (len * sz))) := by
                refine ⟨?_, fun i el hi => ?_⟩
                · have : len * sz ≤ (L id).cap * sz := Nat.mul_le_mul_right _ (by omega)
                  simp only [List.length_take, Array.length_toList]
                  rw [hC1', Nat.min_eq_left this, Nat.min_eq_left hle]
                · rw [List.getElem?_take] at hi
                  split at hi
                  · rename_i hilt
                    obtain ⟨q1, q2⟩ := hC3 i el hi
                    refine ⟨q1, fun j gv hj => ?_⟩
                    obtain ⟨uu, u1, u2⟩ := q2 j gv hj
                    have hjs : j < sz := by rw [← q1]; exact (List.getElem?_eq_some_iff.1 hj).1
                    refine ⟨uu, ?_, u2⟩
                    rw [List.getElem?_take_of_lt (mul_lt_row hilt hjs)]
                    simpa using u1
                  · cases hi
              have hrun := hgrow (some A) len c (C.toList.take (len * sz)) hin (by omega) hrm'.2 (fun w1 hw1 => by
                by_cases hc0 : c = 0
                · have hl0 : len = 0 := by omega
                  subst hl0
                  simp [Builtin.firstCells, loadCells, loadCellsFrom]
                · have hA' : A = ⟨b, 0, none⟩ := hA.resolve_right hc0
                  subst hA'
                  refine run_firstCells_some (P := P) w1 sz len ⟨b, 0, none⟩ len c _ ?_ (fun j q hj => ?_)
                  · have : len * sz ≤ (L id).cap * sz := Nat.mul_le_mul_right _ (by omega)
                    simp only [List.length_take, Array.length_toList]
                    rw [hC1', Nat.min_eq_left this]
                  · rw [add_none]
                    rw [List.getElem?_take] at hj
                    split at hj
                    · have hb2' : w.heap[b]? = some (.cells C T (0, 0)) := hb2
                      simp only [World.cell?, hw1, hb2', Nat.zero_add, Option.isSome_none, Bool.false_eq_true, if_false]
                      simpa using hj
                    · cases hj)
              have hfr := fresh (len + ys.length) c (C.toList.take (len * sz)) (els.take len) holds (by simp; omega)
              obtain ⟨e1, e2⟩ := hr.turn (w' := grownW w (len + ys.length) c e z (C.toList.take (len * sz)) news) (k' := .rows sz (g + 1) (els.take len ++ ys)) hget rfl ⟨some w.heap.size, g + 1, grownCap w (len + ys.length) c e, false⟩ rfl rfl rfl (hgrows _ _ _).size (fun b hb _ => (hgrows _ _ _).old b hb)
                (.inr ⟨trivial, hg2', by simp only [hg1']; omega⟩) (by intro b hb; simp at hb; right; omega) (fun hext => by
                  have hLid : (envOf (grownW w (len + ys.length) c e z (C.toList.take (len * sz)) news) ((full h s).set id (.rows sz (g + 1) (els.take len ++ ys))) (updL L id ⟨some w.heap.size, g + 1, grownCap w (len + ys.length) c e, false⟩)).L id = ⟨some w.heap.size, g + 1, grownCap w (len + ys.length) c e, false⟩ := updL_self _ _ _
                  refine ⟨by rw [hLid], ⟨by rw [hLid], by omega⟩, ?_⟩
                  rw [hLid]
                  exact ⟨e, _, (heap_alloc_new w.drew _), hfr.mono hext⟩)
              refine ⟨⟨_, _, updL L id ⟨some w.heap.size, g + 1, grownCap w (len + ys.length) c e, false⟩, hrun, ?_, ?_, ?_, fun j hj hne => ⟨updL_ne _ _ _ (by simpa using hne), (same_grow hr (hgrows _ _ _) [] j hj (by simp)).2⟩⟩, setB_t _ _ _ _⟩ <;> rw [full_setB]
              · refine .ms (by simpa [envOf] using hid) ?_ ?_ rfl (fun _ => ?_) (fun _ => ?_)
                · show 0 < (updL L id _ id).gen; rw [updL_self]; exact Nat.succ_pos _
                · show g + 1 ≤ (updL L id _ id).gen; rw [updL_self]; exact Nat.le_refl _
                · show MsOk (updL L id _ id) _ _ _ _; rw [updL_self]
                  exact ⟨_, _, rfl, by simp, grownCap_ge _ _ _ _, .inl (by simp)⟩
                · show g + 1 = 1 ↔ (updL L id _ id).blk = none; rw [updL_self]; constructor
                  · intro e; omega
                  · intro e; cases e
              · exact e1
              · exact e2
    · cases he

theorem appTV_ok (hr : HR w (full h s) L) {t u ty e : TypeId} {sz bytes : Nat} {z : Value} (hzs : z.cells.size = sz) {id g off len : Nat} {cx y : Value} {ys : List (List GV)} {news : List Value} (hx : AR (envOf w (full h s) L) (.ms id g sz off len) cx) (hy : NewIs (envOf w (full h s) L) sz ys news)
    (hroom : ∀ (A : Option Addr) (sLen sCap : Nat) (w2 : World), sLen + ys.length ≤ sCap → (match A with | none => w2 = w | some a => (storeCells (a.add (sLen * sz)) news).run P w = .ok () w2) →
      (Builtin.append_ #[t, u] ty #[.slice A sLen sCap, y]).run P w = .ok (.slice A (sLen + ys.length) sCap) w2)
    (hgrow : ∀ (A : Option Addr) (sLen sCap : Nat) (olds : List Value), ¬ sLen + ys.length ≤ sCap → sLen + ys.length ≤ 9223372036854775807 → (sLen + ys.length) * bytes ≤ 140737488355328 →
      (∀ w1 : World, w1.heap = w.heap → (Builtin.firstCells sz sLen (.slice A sLen sCap)).run P w1 = .ok olds.toArray w1) →
      (Builtin.append_ #[t, u] ty #[.slice A sLen sCap, y]).run P w = .ok (.slice (some ⟨w.heap.size, 0, none⟩) (sLen + ys.length) (grownCap w (sLen + ys.length) sCap e)) (grownW w (sLen + ys.length) sCap e z olds news))
    (he : appTV e h s sz bytes id g off len ys = some (v, s', ws)) :
    (∃ cv w' L', (Builtin.append_ #[t, u] ty #[cx, y]).run P w = .ok cv w' ∧ AR (envOf w' (full h s') L') v cv ∧ HR w' (full h s') L' ∧ Ext (envOf w (full h s) L) (envOf w' (full h s') L') ∧ Same w w' (full h s) L L' ws) ∧ s'.t = s.t := by
  have hgrows : ∀ (need old : Nat) (olds : List Value), Grows w (grownW w need old e z olds news) := fun need old olds => (Grows.drew w (w.drawn + 1)).trans (Grows.push _ _)
  -- a new row
  have fresh : ∀ (need old : Nat) (olds : List Value) (els : List (List GV)), NewIs (envOf w (full h s) L) sz els olds → els.length + ys.length = need →
      RowsIn (envOf w (full h s) L) (olds.toArray ++ (news.toArray ++ Builtin.zeroCells z.cells (grownCap w need old e - need))) sz (grownCap w need old e) (els ++ ys) := by
    intro need old olds els hels hneed
    have hge := grownCap_ge w need old e
    refine ⟨?_, by rw [List.length_append, hneed]; exact hge, fun i el hi => ?_⟩
    · simp only [Array.size_append, List.size_toArray, size_zeroCells, hzs, hels.1, hy.1]
      rw [← Nat.add_assoc, ← Nat.add_mul, ← Nat.add_mul, hneed, Nat.add_sub_of_le hge]
    · by_cases hlt : i < els.length
      · rw [List.getElem?_append_left hlt] at hi
        obtain ⟨h1, h2⟩ := hels.2 i el hi
        refine ⟨h1, fun j g hj => ?_⟩
        obtain ⟨q, q1, q2⟩ := h2 j g hj
        refine ⟨q, ?_, q2⟩
        rw [Array.getElem?_append_left (by simpa using (List.getElem?_eq_some_iff.1 q1).1)]
        simpa using q1
      · rw [List.getElem?_append_right (by omega)] at hi
        obtain ⟨h1, h2⟩ := hy.2 _ el hi
        refine ⟨h1, fun j g hj => ?_⟩
        obtain ⟨q, q1, q2⟩ := h2 j g hj
        refine ⟨q, ?_, q2⟩
        have hle : els.length * sz ≤ i * sz + j := Nat.le_trans (Nat.mul_le_mul_right sz (by omega : els.length ≤ i)) (Nat.le_add_right _ _)
        rw [Array.getElem?_append_right (by simp only [List.size_toArray, hels.1]; exact hle), Array.getElem?_append_left]
        · simp only [List.size_toArray, hels.1, List.getElem?_toArray]
          rw [← q1]; congr 1
          rw [Nat.sub_mul]
          have := Nat.mul_le_mul_right sz (by omega : els.length ≤ i)
          omega
        · have := (List.getElem?_eq_some_iff.1 q1).1
          simp only [List.size_toArray, hels.1]
          rw [Nat.sub_mul] at this
          have := Nat.mul_le_mul_right sz (by omega : els.length ≤ i)
          omega
  have hempty : NewIs (envOf w (full h s) L) sz [] [] := ⟨by simp, by simp⟩
  unfold appTV at he
  split at he
  · -- nothing is appended
    have hn0 : news = [] := List.eq_nil_of_length_eq_zero (by have := hy.1; simpa using this)
    subst hn0
    have same : ∀ (A : Option Addr) (n cap : Nat), cx = .slice A n cap → n ≤ cap → (Builtin.append_ #[t, u] ty #[cx, y]).run P w = .ok cx w := by
      intro A n cap e1 e2
      subst e1
      have := hroom A n cap w (by simpa using e2) (by cases A <;> simp [storeCells])
      simpa using this
    split at he
    · rename_i hcur
      simp at he
      obtain ⟨rfl, rfl, rfl⟩ := he
      obtain ⟨hid, hg0, hgen, hm⟩ := ms_ok hr hcur hx
      obtain ⟨A, cap, e1, e2⟩ := hm.slice
      exact ⟨⟨cx, w, L, same A _ cap e1 e2, hx, hr, Ext.refl _, fun _ _ _ => ⟨rfl, fun _ _ _ => rfl⟩⟩, rfl⟩
    · cases he
  · rename_i hne
    have hpos : 0 < ys.length := by
      cases ys with
      | nil => exact absurd rfl hne
      | cons => simp
    cases hB : getB h s id with
    | none => simp [hB] at he
    | some k =>
      cases k <;> simp [hB] at he
      rename_i T sz2 g' els
      obtain ⟨⟨rfl, rfl, hTe⟩, he⟩ := he
      replace hTe := hTe.symm
      subst hTe
      have hcur : cur h s id g = true := by simp [cur, hB]
      obtain ⟨hid, hg0, hgen, hm⟩ := ms_ok hr hcur hx
      have hget : (full h s)[id]? = some (.trow e sz g els) := by rw [getB_full]; exact hB
      obtain ⟨hg1, ⟨hg2, hg3⟩, hrow⟩ := hr.blk id _ hget
      have hg1' : (L id).gen = g := hg1
      have hg2' : (L id).st = false := hg2
      split at he
      · -- there is room
        rename_i hfit
        simp at he
        obtain ⟨rfl, rfl, rfl⟩ := he
        cases hbk : (L id).blk with
        | none =>
          have : els = [] := by
            have hb' : (envOf w (full h s) L).L id = L id := rfl
            rw [hb', hbk] at hrow; exact hrow.1
          subst this; simp only [List.length_nil] at hfit; omega
        | some b =>
          have hb' : (envOf w (full h s) L).L id = L id := rfl
          rw [hb', hbk] at hrow
          obtain ⟨C, hb2, hC1, hC2, hC3⟩ := hrow
          unfold MsOk at hm
          rw [hbk] at hm
          obtain ⟨A, c, rfl, hoc, hlc, hA⟩ := hm
          have hA' : A = ⟨b, off * sz, none⟩ := hA.resolve_right (by omega)
          subst hA'
          have hC1' : C.size = (L id).cap * sz := hC1
          have hbound : (off * sz + len * sz) + news.length ≤ C.size := by
            rw [hC1', hy.1, ← Nat.add_mul, ← Nat.add_mul]; exact Nat.mul_le_mul_right _ (by omega)
          have hst := run_storeAll (P := P) hb2 hbound hy.one
          have hrun := hroom (some ⟨b, off * sz, none⟩) len c (w.setCells b (off * sz + len * sz) news) (by omega) (by simp only [add_none]; exact hst)
          obtain ⟨e1, e2, e3⟩ := hr.storeInto (k' := .trow e sz g (els.take (off + len) ++ (ys ++ els.drop (off + (len + ys.length))))) hget rfl hbk hb2 (o := off * sz + len * sz) (vs := news) hbound (fun C' z1 z2 hext z3 => by
            have hLid : (envOf (w.setCells b (off * sz + len * sz) news) ((full h s).set id (.trow e sz g (els.take (off + len) ++ (ys ++ els.drop (off + (len + ys.length)))))) (updL L id (L id))).L id = L id := by show updL L id (L id) id = _; rw [updL_self]
            refine ⟨by rw [hLid]; exact hg1, ⟨by rw [hLid]; exact hg2, hg3⟩, ?_⟩
            rw [hLid, hbk]
            have hl1 : (els.take (off + len)).length = off + len := by simp; omega
            refine ⟨C', z3, by rw [z1]; exact hC1, ?_, fun i el hi => ?_⟩
            · have : els.length ≤ (L id).cap := hC2
              simp; omega
            · by_cases hin : off + len ≤ i ∧ i < off + len + ys.length
              · rw [List.getElem?_append_right (by omega), hl1, List.getElem?_append_left (by omega)] at hi
                obtain ⟨q1, q2⟩ := hy.2 _ el hi
                refine ⟨q1, fun j gv hj => ?_⟩
                obtain ⟨uu, u1, u2⟩ := q2 j gv hj
                have hjs : j < sz := by rw [← q1]; exact (List.getElem?_eq_some_iff.1 hj).1
                refine ⟨uu, ?_, u2.mono hext⟩
                have hlow : (off + len) * sz ≤ i * sz := Nat.mul_le_mul_right _ hin.1
                have hhigh : i * sz + j < (off + len + ys.length) * sz := mul_lt_row hin.2 hjs
                rw [Nat.add_mul] at hlow
                rw [Nat.add_mul, Nat.add_mul] at hhigh
                rw [z2, if_pos (by rw [hy.1]; omega), ← u1]
                congr 1
                rw [Nat.sub_mul, Nat.add_mul]; omega
              · have hcs : els[i]? = some el := by
                  by_cases hlo : i < off + len
                  · rw [List.getElem?_append_left (by omega), List.getElem?_take_of_lt hlo] at hi; exact hi
                  · rw [List.getElem?_append_right (by omega), hl1, List.getElem?_append_right (by omega), List.getElem?_drop] at hi
                    rw [← hi]; congr 1; omega
                obtain ⟨q1, q2⟩ := hC3 i el hcs
                refine ⟨q1, fun j gv hj => ?_⟩
                obtain ⟨uu, u1, u2⟩ := q2 j gv hj
                have hjs : j < sz := by rw [← q1]; exact (List.getElem?_eq_some_iff.1 hj).1
                refine ⟨uu, ?_, u2.mono hext⟩
                rw [z2, if_neg]
                · exact u1
                · rw [hy.1]
                  rintro ⟨y1, y2⟩
                  have hio : i < off + len ∨ off + len + ys.length ≤ i := by omega
                  rcases hio with hio | hio
                  · have := mul_lt_row hio hjs
                    rw [Nat.add_mul] at this; omega
                  · have := Nat.mul_le_mul_right sz hio
                    rw [Nat.add_mul, Nat.add_mul] at this; omega)
          refine ⟨⟨_, _, _, hrun, ?_, ?_, ?_, e3⟩, setB_t _ _ _ _⟩ <;> rw [full_setB]
          · refine .ms (by simpa [envOf] using hid) ?_ ?_ rfl (fun _ => ?_) (fun _ => ?_)
            · show 0 < (updL L id (L id) id).gen; rw [updL_self]; exact hg0
            · show g ≤ (updL L id (L id) id).gen; rw [updL_self, hg1']; exact Nat.le_refl _
            · show MsOk (updL L id (L id) id) _ _ _ _; rw [updL_self]
              unfold MsOk; rw [hbk]
              exact ⟨_, c, rfl, hoc, by omega, .inl rfl⟩
            · show g = 1 ↔ (updL L id (L id) id).blk = none; rw [updL_self]; exact ms_nil hr hcur hx
          · exact e1
          · exact e2
      · -- it may go on in place, or elsewhere
        rename_i hfit
        simp at he
        obtain ⟨⟨rfl, hle, hrm⟩, rfl, rfl, rfl⟩ := he
        have hrm' : len + ys.length ≤ 140737488355328 ∧ (len + ys.length) * bytes ≤ 140737488355328 := by simpa [room] using hrm
        -- the elements that stay
        have hb' : (envOf w (full h s) L).L id = L id := rfl
        have stay : ∀ (k' : Blk) (lc : Lc), k' = .trow e sz (g + 1) (els.take len ++ ys) → True := fun _ _ _ => trivial
        cases hbk : (L id).blk with
        | none =>
          rw [hb', hbk] at hrow
          obtain ⟨rfl, hcap0⟩ := hrow
          unfold MsOk at hm
          rw [hbk] at hm
          obtain ⟨rfl, _, rfl⟩ := hm
          have hrun := hgrow none 0 0 [] (by omega) (by omega) hrm'.2 (fun w1 _ => by simp [Builtin.firstCells])
          have hfr := fresh (0 + ys.length) 0 [] [] hempty (by simp)
          obtain ⟨e1, e2⟩ := hr.turn (w' := grownW w (0 + ys.length) 0 e z [] news) (k' := .trow e sz (g + 1) ([] ++ ys)) hget rfl ⟨some w.heap.size, g + 1, grownCap w (0 + ys.length) 0 e, false⟩ rfl rfl rfl (hgrows _ _ _).size (fun b hb _ => (hgrows _ _ _).old b hb)
            (.inr ⟨trivial, hg2', by simp only [hg1']; omega⟩) (by intro b hb; simp at hb; right; omega) (fun hext => by
              have hLid : (envOf (grownW w (0 + ys.length) 0 e z [] news) ((full h s).set id (.trow e sz (g + 1) ([] ++ ys))) (updL L id ⟨some w.heap.size, g + 1, grownCap w (0 + ys.length) 0 e, false⟩)).L id = ⟨some w.heap.size, g + 1, grownCap w (0 + ys.length) 0 e, false⟩ := updL_self _ _ _
              refine ⟨by rw [hLid], ⟨by rw [hLid], by omega⟩, ?_⟩
              rw [hLid]
              exact ⟨_, (heap_alloc_new w.drew _), hfr.mono hext⟩)
          refine ⟨⟨_, _, updL L id ⟨some w.heap.size, g + 1, grownCap w (0 + ys.length) 0 e, false⟩, hrun, ?_, ?_, ?_, fun j hj hne => ⟨updL_ne _ _ _ (by simpa using hne), (same_grow hr (hgrows _ _ _) [] j hj (by simp)).2⟩⟩, setB_t _ _ _ _⟩ <;> rw [full_setB]
          · simp only [List.take_nil, List.nil_append, Nat.zero_add] at *
            refine .ms (by simpa [envOf] using hid) ?_ ?_ rfl (fun _ => ?_) (fun _ => ?_)
            · show 0 < (updL L id _ id).gen; rw [updL_self]; exact Nat.succ_pos _
            · show g + 1 ≤ (updL L id _ id).gen; rw [updL_self]; exact Nat.le_refl _
            · show MsOk (updL L id _ id) _ _ _ _; rw [updL_self]
              exact ⟨_, _, rfl, by simp, by have := grownCap_ge w ys.length 0 e; omega, .inl (by simp)⟩
            · show g + 1 = 1 ↔ (updL L id _ id).blk = none; rw [updL_self]; constructor
              · intro e; omega
              · intro e; cases e
          · simpa using e1
          · simpa using e2
        | some b =>
          rw [hb', hbk] at hrow
          obtain ⟨C, hb2, hC1, hC2, hC3⟩ := hrow
          unfold MsOk at hm
          rw [hbk] at hm
          obtain ⟨A, c, rfl, hoc, hlc, hA⟩ := hm
          simp only [Nat.zero_add, Nat.zero_mul] at hoc hA
          have hC1' : C.size = (L id).cap * sz := hC1
          have hC2' : els.length ≤ (L id).cap := hC2
          have hblt : b < w.heap.size := (Array.getElem?_eq_some_iff.1 hb2).1
          by_cases hin : len + ys.length ≤ c
          · -- in place
            have hA' : A = ⟨b, 0, none⟩ := hA.resolve_right (by omega)
            subst hA'
            have hbound : (0 + len * sz) + news.length ≤ C.size := by
              rw [hC1', hy.1, Nat.zero_add, ← Nat.add_mul]; exact Nat.mul_le_mul_right _ (by omega)
            have hst := run_storeAll (P := P) hb2 hbound hy.one
            have hrun := hroom (some ⟨b, 0, none⟩) len c (w.setCells b (0 + len * sz) news) hin (by simp only [add_none]; exact hst)
            obtain ⟨C', z3, z1, z2, z4, z5, z6, z7, z8⟩ := setCells_heap b e (0, 0) news (0 + len * sz) w C hb2 hbound
            have hl1 : (els.take len).length = len := by simp; omega
            obtain ⟨e1, e2⟩ := hr.turn (w' := w.setCells b (0 + len * sz) news) (k' := .trow e sz (g + 1) (els.take len ++ ys)) hget rfl ⟨some b, g + 1, (L id).cap, false⟩ z5 z6 z7 (by rw [z8]; exact Nat.le_refl _) (fun b' hb' hne => z4 b' (fun e => hne (by rw [e]; exact hbk)))
              (.inr ⟨trivial, hg2', by simp only [hg1']; omega⟩) (by intro b' hb'; simp at hb'; left; rw [← hb']; exact hbk) (fun hext => by
                have hLid : (envOf (w.setCells b (0 + len * sz) news) ((full h s).set id (.trow e sz (g + 1) (els.take len ++ ys))) (updL L id ⟨some b, g + 1, (L id).cap, false⟩)).L id = ⟨some b, g + 1, (L id).cap, false⟩ := updL_self _ _ _
                refine ⟨by rw [hLid], ⟨by rw [hLid], by omega⟩, ?_⟩
                rw [hLid]
                refine ⟨C', z3, by rw [z1]; exact hC1, ?_, fun i el hi => ?_⟩
                · simp; omega
                · by_cases hii : len ≤ i
                  · rw [List.getElem?_append_right (by omega), hl1] at hi
                    obtain ⟨q1, q2⟩ := hy.2 _ el hi
                    have hil : i - len < ys.length := (List.getElem?_eq_some_iff.1 hi).1
                    refine ⟨q1, fun j gv hj => ?_⟩
                    obtain ⟨uu, u1, u2⟩ := q2 j gv hj
                    have hjs : j < sz := by rw [← q1]; exact (List.getElem?_eq_some_iff.1 hj).1
                    refine ⟨uu, ?_, u2.mono hext⟩
                    have hlow : len * sz ≤ i * sz := Nat.mul_le_mul_right _ hii
                    have hhigh : i * sz + j < (len + ys.length) * sz := mul_lt_row (by omega) hjs
                    rw [Nat.add_mul] at hhigh
                    rw [z2, if_pos (by rw [hy.1]; omega), ← u1]
                    congr 1
                    rw [Nat.sub_mul]; omega
                  · rw [List.getElem?_append_left (by omega), List.getElem?_take_of_lt (by omega)] at hi
                    obtain ⟨q1, q2⟩ := hC3 i el hi
                    refine ⟨q1, fun j gv hj => ?_⟩
                    obtain ⟨uu, u1, u2⟩ := q2 j gv hj
                    have hjs : j < sz := by rw [← q1]; exact (List.getElem?_eq_some_iff.1 hj).1
                    refine ⟨uu, ?_, u2.mono hext⟩
                    rw [z2, if_neg]
                    · exact u1
                    · rintro ⟨y1, y2⟩
                      have := mul_lt_row (show i < len by omega) hjs
                      omega)
            refine ⟨⟨_, _, updL L id ⟨some b, g + 1, (L id).cap, false⟩, hrun, ?_, ?_, ?_, fun j hj hne => ⟨updL_ne _ _ _ (by simpa using hne), fun ⟨xx, hx', lx⟩ b' hb' => z4 b' (fun e => ?_)⟩⟩, setB_t _ _ _ _⟩
            · rw [full_setB]
              refine .ms (by simpa [envOf] using hid) ?_ ?_ rfl (fun _ => ?_) (fun _ => ?_)
              · show 0 < (updL L id _ id).gen; rw [updL_self]; exact Nat.succ_pos _
              · show g + 1 ≤ (updL L id _ id).gen; rw [updL_self]; exact Nat.le_refl _
              · show MsOk (updL L id _ id) _ _ _ _; rw [updL_self]
                exact ⟨_, c, rfl, by simp; omega, by omega, .inl (by simp)⟩
              · show g + 1 = 1 ↔ (updL L id _ id).blk = none; rw [updL_self]; constructor
                · intro e; omega
                · intro e; cases e
            · rw [full_setB]; exact e1
            · rw [full_setB]; exact e2
            · subst e
              exact hne (by simp [hr.inj j id b' xx _ hx' hget lx rfl hb' hbk])
          · -- elsewhere
            have holds : NewIs (envOf w (full h s) L) sz (els.take len) ((C.toList.take (len * sz))) := by
              refine ⟨?_, fun i el hi => ?_⟩
              · have : len * sz ≤ (L id).cap * sz := Nat.mul_le_mul_right _ (by omega)
                simp only [List.length_take, Array.length_toList]
                rw [hC1', Nat.min_eq_left this, Nat.min_eq_left hle]
              · rw [List.getElem?_take] at hi
                split at hi
                · rename_i hilt
                  obtain ⟨q1, q2⟩ := hC3 i el hi
                  refine ⟨q1, fun j gv hj => ?_⟩
                  obtain ⟨uu, u1, u2⟩ := q2 j gv hj
                  have hjs : j < sz := by rw [← q1]; exact (List.getElem?_eq_some_iff.1 hj).1
                  refine ⟨uu, ?_, u2⟩
                  rw [List.getElem?_take_of_lt (mul_lt_row hilt hjs)]
                  simpa using u1
                · cases hi
            have hrun := hgrow (some A) len c (C.toList.take (len * sz)) hin (by omega) hrm'.2 (fun w1 hw1 => by
              by_cases hc0 : c = 0
              · have hl0 : len = 0 := by omega
                subst hl0
                simp [Builtin.firstCells, loadCells, loadCellsFrom]
              · have hA' : A = ⟨b, 0, none⟩ := hA.resolve_right hc0
                subst hA'
                refine run_firstCells_some (P := P) w1 sz len ⟨b, 0, none⟩ len c _ ?_ (fun j q hj => ?_)
                · have : len * sz ≤ (L id).cap * sz := Nat.mul_le_mul_right _ (by omega)
                  simp only [List.length_take, Array.length_toList]
                  rw [hC1', Nat.min_eq_left this]
                · rw [add_none]
                  rw [List.getElem?_take] at hj
                  split at hj
                  · have hb2' : w.heap[b]? = some (.cells C e (0, 0)) := hb2
                    simp only [World.cell?, hw1, hb2', Nat.zero_add, Option.isSome_none, Bool.false_eq_true, if_false]
                    simpa using hj
                  · cases hj)
            have hfr := fresh (len + ys.length) c (C.toList.take (len * sz)) (els.take len) holds (by simp; omega)
            obtain ⟨e1, e2⟩ := hr.turn (w' := grownW w (len + ys.length) c e z (C.toList.take (len * sz)) news) (k' := .trow e sz (g + 1) (els.take len ++ ys)) hget rfl ⟨some w.heap.size, g + 1, grownCap w (len + ys.length) c e, false⟩ rfl rfl rfl (hgrows _ _ _).size (fun b hb _ => (hgrows _ _ _).old b hb)
              (.inr ⟨trivial, hg2', by simp only [hg1']; omega⟩) (by intro b hb; simp at hb; right; omega) (fun hext => by
                have hLid : (envOf (grownW w (len + ys.length) c e z (C.toList.take (len * sz)) news) ((full h s).set id (.trow e sz (g + 1) (els.take len ++ ys))) (updL L id ⟨some w.heap.size, g + 1, grownCap w (len + ys.length) c e, false⟩)).L id = ⟨some w.heap.size, g + 1, grownCap w (len + ys.length) c e, false⟩ := updL_self _ _ _
                refine ⟨by rw [hLid], ⟨by rw [hLid], by omega⟩, ?_⟩
                rw [hLid]
                exact ⟨_, (heap_alloc_new w.drew _), hfr.mono hext⟩)
            refine ⟨⟨_, _, updL L id ⟨some w.heap.size, g + 1, grownCap w (len + ys.length) c e, false⟩, hrun, ?_, ?_, ?_, fun j hj hne => ⟨updL_ne _ _ _ (by simpa using hne), (same_grow hr (hgrows _ _ _) [] j hj (by simp)).2⟩⟩, setB_t _ _ _ _⟩ <;> rw [full_setB]
            · refine .ms (by simpa [envOf] using hid) ?_ ?_ rfl (fun _ => ?_) (fun _ => ?_)
              · show 0 < (updL L id _ id).gen; rw [updL_self]; exact Nat.succ_pos _
              · show g + 1 ≤ (updL L id _ id).gen; rw [updL_self]; exact Nat.le_refl _
              · show MsOk (updL L id _ id) _ _ _ _; rw [updL_self]
                exact ⟨_, _, rfl, by simp, grownCap_ge _ _ _ _, .inl (by simp)⟩
              · show g + 1 = 1 ↔ (updL L id _ id).blk = none; rw [updL_self]; constructor
                · intro e; omega
                · intro e; cases e
            · exact e1
            · exact e2

end
end Go.AM
end
section
set_option linter.unusedSimpArgs false
set_option linter.unusedVariables false
namespace Go.AM
open Go

section
variable {P : Program} {h : List Blk} {s s' : St} {a : Act} {w : World} {L : Nat → Lc} {v : AV} {ws : List Nat} {drw : Option Nat} {nb : Nat}

/-- The cells of a list of rows. -/
theorem NewIs.of {E : Env} {sz : Nat} {ys : List (List GV)} (hsz : ∀ (i : Nat) (el : List GV), ys[i]? = some el → el.length = sz) (f : Nat → Value)
    (hf : ∀ (i : Nat) (el : List GV) (j : Nat) (g : GV), ys[i]? = some el → el[j]? = some g → GR E g (f (i * sz + j))) : NewIs E sz ys ((List.range (ys.length * sz)).map f) := by
  refine ⟨by simp, fun i el hi => ⟨hsz i el hi, fun j g hj => ⟨f (i * sz + j), ?_, hf i el j g hi hj⟩⟩⟩
  have hil : i < ys.length := (List.getElem?_eq_some_iff.1 hi).1
  have hjl : j < sz := by rw [← hsz i el hi]; exact (List.getElem?_eq_some_iff.1 hj).1
  rw [List.getElem?_map, List.getElem?_range (mul_lt_row hil hjl)]; rfl

theorem firstCells_at {sz n : Nat} {b o cap : Nat} {len : Nat} (f : Nat → Value) (w1 : World) (hf : ∀ k, k < n * sz → w1.cell? ⟨b, o + k, none⟩ = some (f k)) :
    (Builtin.firstCells sz n (.slice (some ⟨b, o, none⟩) len cap)).run P w1 = .ok ((List.range (n * sz)).map f).toArray w1 := by
  refine run_firstCells_some (P := P) w1 sz n ⟨b, o, none⟩ len cap _ (by simp) (fun j q hj => ?_)
  rw [add_none]
  rw [List.getElem?_map] at hj
  by_cases hl : j < n * sz
  · rw [List.getElem?_range hl] at hj
    simp at hj
    subst hj
    exact hf j hl
  · rw [List.getElem?_eq_none (by simp; omega)] at hj; cases hj

theorem div_row {k n sz : Nat} (h : k < n * sz) : 0 < sz ∧ k / sz < n ∧ k % sz < sz ∧ k / sz * sz + k % sz = k := by
  have hsz : 0 < sz := by
    rcases Nat.eq_zero_or_pos sz with e | e
    · subst e; simp at h
    · exact e
  exact ⟨hsz, Nat.div_lt_of_lt_mul (by rw [Nat.mul_comm]; exact h), Nat.mod_lt _ hsz, by rw [Nat.mul_comm]; exact Nat.div_add_mod _ _⟩

theorem viewN_ok (hr : HR w (full h s) L) {sz : Nat} {x : AV} {cx : Value} {ys : List (List GV)} (hv : viewN h s sz x = some ys) (hx : AR (envOf w (full h s) L) x cx) :
    ∃ A cap news, cx = .slice A ys.length cap ∧ ys.length ≤ cap ∧ NewIs (envOf w (full h s) L) sz ys news ∧ ∀ w1 : World, w1.heap = w.heap → (Builtin.firstCells sz ys.length cx).run P w1 = .ok news.toArray w1 := by
  have hempty : NewIs (envOf w (full h s) L) sz [] [] := ⟨by simp, by simp⟩
  have hrows : ∀ (id b g sz' off len : Nat) (els : List (List GV)) (T : TypeId) (C : Array Value) (fr : Nat × Nat), sz = sz' → MsOk (L id) sz' off len cx → (L id).blk = some b → w.heap[b]? = some (.cells C T fr) → RowsIn (envOf w (full h s) L) C sz (L id).cap els →
      ((els.drop off).take len).length = len → ∃ A cap news, cx = .slice A ((els.drop off).take len).length cap ∧ ((els.drop off).take len).length ≤ cap ∧ NewIs (envOf w (full h s) L) sz ((els.drop off).take len) news ∧ ∀ w1 : World, w1.heap = w.heap → (Builtin.firstCells sz ((els.drop off).take len).length cx).run P w1 = .ok news.toArray w1 := by
    intro id b g sz' off len els T C fr e hm hbk hb hC hlen
    subst e
    obtain ⟨hC1, hC2, hC3⟩ := hC
    unfold MsOk at hm
    rw [hbk] at hm
    obtain ⟨A, c, rfl, h1, h2, h3⟩ := hm
    have hC2' : els.length ≤ (L id).cap := hC2
    have hget : ∀ i el, ((els.drop off).take len)[i]? = some el → els[off + i]? = some el ∧ i < len := by
      intro i el hi
      rw [List.getElem?_take] at hi
      split at hi
      · rw [List.getElem?_drop] at hi; exact ⟨hi, by assumption⟩
      · cases hi
    by_cases hl0 : len = 0
    · subst hl0
      refine ⟨some A, c, [], by simp, by simp, by simpa using hempty, fun w1 _ => ?_⟩
      simp [Builtin.firstCells, loadCells, loadCellsFrom]
    · have hA : A = ⟨b, off * sz, none⟩ := h3.resolve_right (by omega)
      subst hA
      let f : Nat → Value := fun k => C.getD (off * sz + k) Go.undef
      have hns : NewIs (envOf w (full h s) L) sz ((els.drop off).take len) ((List.range (((els.drop off).take len).length * sz)).map f) := NewIs.of (fun i el hi => (hC3 _ el (hget i el hi).1).1) f (fun i el j g hi hj => by
        obtain ⟨q1, q2⟩ := hC3 _ el (hget i el hi).1
        obtain ⟨u, u1, u2⟩ := q2 j g hj
        have : f (i * sz + j) = u := by
          show C.getD (off * sz + (i * sz + j)) Go.undef = u
          rw [← Nat.add_assoc, ← Nat.add_mul, Array.getD_eq_getD_getElem?, u1]; rfl
        rw [this]; exact u2)
      refine ⟨_, c, _, by rw [hlen], by rw [hlen]; exact h2, hns, fun w1 hw1 => ?_⟩
      refine firstCells_at f w1 (fun k hk => ?_)
      obtain ⟨d1, d2, d3, d4⟩ := div_row hk
      obtain ⟨q1, q2⟩ := hC3 (off + k / sz) _ (hget _ _ (List.getElem?_eq_getElem d2)).1
      obtain ⟨u, u1, u2⟩ := q2 (k % sz) _ (List.getElem?_eq_getElem (by rw [q1]; exact d3))
      have e1 : (off + k / sz) * sz + k % sz = off * sz + k := by rw [Nat.add_mul]; omega
      rw [e1] at u1
      have hb' : w1.heap[b]? = some (.cells C T fr) := by rw [hw1]; exact hb
      show w1.cell? _ = some (C.getD (off * sz + k) Go.undef)
      simp [World.cell?, hb', Array.getD_eq_getD_getElem?, u1]
  unfold viewN at hv
  split at hv
  · rename_i sz' els
    split at hv
    · rename_i e
      subst e
      cases hv
      have hq := hx.inv_g
      cases hq with
      | @sl _ b o cap _ c hcap hb hO hsz hc hg =>
        let f : Nat → Value := fun k => c (k / sz) (k % sz)
        have hmod : ∀ i j, j < sz → (i * sz + j) / sz = i ∧ (i * sz + j) % sz = j := by
          intro i j hj
          have hpos : 0 < sz := by omega
          exact ⟨by rw [Nat.mul_comm, Nat.mul_add_div hpos, Nat.div_eq_of_lt hj, Nat.add_zero], by rw [Nat.mul_comm, Nat.mul_add_mod, Nat.mod_eq_of_lt hj]⟩
        have hns : NewIs (envOf w (full h s) L) sz ys ((List.range (ys.length * sz)).map f) := NewIs.of hsz f (fun i el j g hi hj => by
          have hjs : j < sz := by rw [← hsz i el hi]; exact (List.getElem?_eq_some_iff.1 hj).1
          obtain ⟨m1, m2⟩ := hmod i j hjs
          show GR _ g (c ((i * sz + j) / sz) ((i * sz + j) % sz))
          rw [m1, m2]; exact hg i el j g hi hj)
        refine ⟨_, cap, _, rfl, hcap, hns, fun w1 hw1 => firstCells_at f w1 (fun k hk => ?_)⟩
        obtain ⟨d1, d2, d3, d4⟩ := div_row hk
        have hel := List.getElem?_eq_getElem d2
        have hlk : k % sz < (ys[k / sz]).length := by rw [hsz _ _ hel]; exact d3
        have hj : (ys[k / sz])[k % sz]? = some ((ys[k / sz])[k % sz]'hlk) := List.getElem?_eq_getElem hlk
        have := hc _ _ _ _ hel hj
        rw [Nat.add_assoc, d4] at this
        have hcell : w1.cell? ⟨b, o + k, none⟩ = w.cell? ⟨b, o + k, none⟩ := by simp [World.cell?, hw1]
        rw [hcell]; exact this
      | sl0 _ A cap => exact ⟨some A, cap, [], rfl, by simp, hempty, fun w1 _ => by simp [Builtin.firstCells, loadCells, loadCellsFrom]⟩
    · cases hv
  · cases hv
    have hq := hx.inv_g
    cases hq
    exact ⟨none, 0, [], rfl, by simp, hempty, fun w1 _ => by simp [Builtin.firstCells]⟩
  · rename_i id g sz' off len
    split at hv
    · rename_i e
      cases hB : getB h s id with
      | none => simp [hB] at hv
      | some k =>
        have hcur : ∀ (q1 q2 : Nat) (q3 : List (List GV)), (k = .rows q1 q2 q3 ∨ k = .fro q1 q2 q3) → g = q2 → cur h s id g = true := by
          rintro q1 q2 q3 (rfl | rfl) rfl <;> simp [cur, hB]
        have hget : (full h s)[id]? = some k := by rw [getB_full]; exact hB
        have hHB := hr.blk id _ hget
        have fin : ∀ (sz2 g2 : Nat) (els : List (List GV)), g = g2 → (k = .rows sz2 g2 els ∨ k = .fro sz2 g2 els) → sz2 = sz → off + len ≤ els.length → ys = (els.drop off).take len →
            ∃ A cap news, cx = .slice A ys.length cap ∧ ys.length ≤ cap ∧ NewIs (envOf w (full h s) L) sz ys news ∧ ∀ w1 : World, w1.heap = w.heap → (Builtin.firstCells sz ys.length cx).run P w1 = .ok news.toArray w1 := by
          intro sz2 g2 els hg hk hs2 hlen hys
          subst hg hys hs2
          obtain ⟨hid, hg0, hgen, hm⟩ := ms_ok hr (hcur sz2 g els hk rfl) hx
          have hlen' : ((els.drop off).take len).length = len := by simp; omega
          cases hbk : (L id).blk with
          | none =>
            have hels : els = [] := by
              rcases hk with rfl | rfl
              · obtain ⟨_, _, hrow⟩ := hHB; rw [show (envOf w (full h s) L).L id = L id from rfl, hbk] at hrow; exact hrow.1
              · obtain ⟨_, _, hrow⟩ := hHB; rw [show (envOf w (full h s) L).L id = L id from rfl, hbk] at hrow; exact hrow.1
            subst hels
            unfold MsOk at hm
            rw [hbk] at hm
            obtain ⟨rfl, _, rfl⟩ := hm
            exact ⟨none, 0, [], by simp, by simp, by simpa using hempty, fun w1 _ => by simp [Builtin.firstCells]⟩
          | some b =>
            rcases hk with rfl | rfl
            · obtain ⟨_, _, hrow⟩ := hHB
              rw [show (envOf w (full h s) L).L id = L id from rfl, hbk] at hrow
              obtain ⟨T, C, hb, hC⟩ := hrow
              exact hrows id b g sz' off len els T C (0, 0) e hm hbk hb hC hlen'
            · obtain ⟨_, _, hrow⟩ := hHB
              rw [show (envOf w (full h s) L).L id = L id from rfl, hbk] at hrow
              obtain ⟨_, _, T, C, fr, hb, hC⟩ := hrow
              exact hrows id b g sz' off len els T C fr e hm hbk hb hC hlen'
        cases k <;> simp [hB] at hv
        · obtain ⟨⟨h1, h2, h3⟩, h4⟩ := hv; exact fin _ _ _ h1 (.inl rfl) h2 h3 h4.symm
        · obtain ⟨⟨h1, h2, h3⟩, h4⟩ := hv; exact fin _ _ _ h1 (.inr rfl) h2 h3 h4.symm
    · cases hv
  · cases hv

end
end Go.AM
end
section
set_option linter.unusedSimpArgs false
set_option linter.unusedVariables false
namespace Go.AM
open Go

theorem run_loadInts {P : Program} (w : World) : ∀ (l : List Int) (a : Addr) (acc : ByteArray), (∀ j x, l[j]? = some x → w.cell? (a.add j) = some (.int .u8 x)) →
    (loadBytes a acc l.length).run P w = .ok ⟨acc.data ++ (l.map fun n => UInt8.ofNat n.toNat).toArray⟩ w
  | [], a, acc, _ => by simp [loadBytes]
  | x :: l, a, acc, h => by
    have h0 : w.cell? a = some (.int .u8 x) := by
      have := h 0 x rfl
      simpa [Addr.add] using this
    have ih := run_loadInts (P := P) w l (a.add 1) (acc.push (UInt8.ofNat x.toNat)) (fun j y hy => by
      have := h (j + 1) y (by simpa using hy)
      have e : (a.add 1).add j = a.add (j + 1) := by
        unfold Addr.add
        by_cases hj : j = 0
        · subst hj; simp
        · simp [hj]; omega
      rw [e]; exact this)
    have hx : (x.toNat).toUInt8 = UInt8.ofNat x.toNat := rfl
    simp only [List.length_cons, loadBytes, Sem.run_bind, run_load, h0, Result.andThen, hx]
    rw [ih]
    congr 1
    apply ByteArray.ext
    simp [ByteArray.push]

theorem run_ustr {P : Program} (w : World) (pt it ty e : TypeId) (hp : P.underlying pt = some (.pointer e)) (hc : P.cellsOf e = 1) (g cells : Nat) (hsh : w.shape? g = some (e, cells)) (l : List Int) (h0 : l.length ≠ 0) (hn : l.length ≤ cells) (h63 : l.length ≤ 9223372036854775807)
    (hcell : ∀ j x, l[j]? = some x → w.cell? ((⟨g, 0, none⟩ : Addr).add j) = some (.int .u8 x)) :
    (Builtin.unsafeString_ #[pt, it] ty #[.pointer (some ⟨g, 0, none⟩), .int .i64 l.length]).run P w = .ok (.string ⟨(l.map fun n => UInt8.ofNat n.toNat).toArray⟩) (w.freeze ⟨g, 0, none⟩ l.length) := by
  have hlb := run_loadInts (P := P) w l ⟨g, 0, none⟩ .empty hcell
  have hlies := Lib.liesAt_bytes (P := P) hc (cells / P.cellsOf e) l.length (by rw [hc]; simpa using hn)
  have h63' : ¬ (9223372036854775807 : Int) < (l.length : Int) := by omega
  obtain ⟨m1, hdef⟩ : ∃ m1 : String, Builtin.unsafeString_ #[pt, it] ty #[.pointer (some ⟨g, 0, none⟩), .int .i64 l.length] =
      (do
        let n ← asInt (.int .i64 l.length)
        if n < 0 then runtimePanic (.error m1)
        if n > IntKind.i64.max then unsupported (.unsafePointer "String: a length above the largest int")
        if n = 0 then pure (.string .empty)
        else if ← variablesAt ⟨g, 0, none⟩ (← elemOf pt) n.toNat then do
          let s ← loadBytes ⟨g, 0, none⟩ .empty n.toNat
          freeze ⟨g, 0, none⟩ n.toNat
          pure (.string s)
        else unsupported (.unsafePointer "String: not so many bytes at ptr")) := ⟨_, rfl⟩
  rw [hdef]
  have hmax : IntKind.i64.max = 9223372036854775807 := rfl
  have hneg : ¬ (l.length : Int) < 0 := by omega
  simp [asInt, asIntOf, hmax, h63', hneg, h0, variablesAt, hsh, elemOf, run_underlying hp, hlies, hlb]

theorem frz_heap (w : World) (b : Nat) (C : Array Value) (T : TypeId) (o n : Nat) (hn : n ≠ 0) (hb : w.heap[b]? = some (.cells C T (0, 0))) :
    (w.freeze ⟨b, o, none⟩ n).heap[b]? = some (.cells C T (o, o + n)) ∧ (∀ b', b' ≠ b → (w.freeze ⟨b, o, none⟩ n).heap[b']? = w.heap[b']?) ∧ (w.freeze ⟨b, o, none⟩ n).heap.size = w.heap.size := by
  unfold World.freeze
  rw [if_neg hn]
  refine ⟨?_, fun b' hb' => ?_, by simp⟩
  · simp only [Array.getElem?_modify, if_true, hb, Option.map_some]
    rfl
  · simp only [Array.getElem?_modify]
    rw [if_neg (by omega)]

theorem intsOfG : ∀ {els : List (List GV)} {b : List UInt8}, evI.bytesOfG els = some b → ∃ ns : List Int, els = ns.map (fun n => [.int .u8 n]) ∧ b = ns.map fun n => UInt8.ofNat n.toNat
  | [], b, h => by simp [evI.bytesOfG] at h; exact ⟨[], rfl, by simp [h]⟩
  | el :: els, b, h => by
    unfold evI.bytesOfG at h
    split at h
    · rename_i heq; cases heq
    · rename_i n r heq
      cases heq
      split at h
      · rename_i bs hb
        cases h
        obtain ⟨ns, h1, h2⟩ := intsOfG hb
        exact ⟨n :: ns, by rw [h1]; rfl, by rw [h2]; rfl⟩
      · cases h
    · cases h

section
variable {P : Program} {h : List Blk} {s s' : St} {a : Act} {w : World} {L : Nat → Lc} {v : AV} {ws : List Nat} {drw : Option Nat} {nb : Nat}

theorem Im.same (hr : HR w (full h s) L) {r : Result Next} {cv : Value} (h1 : r = .ok (.value cv) w) (h2 : AR (envOf w (full h s) L) v cv) : Im w (full h s) L r v (full h s) [] :=
  ⟨_, w, L, h1, .inl ⟨cv, rfl, h2⟩, hr, Ext.refl _, fun _ _ _ => ⟨rfl, fun _ _ _ => rfl⟩⟩

/-- A pointer into a variable whose type is known. -/
theorem bld_at (hr : HR w (full h s) L) {id o T : Nat} {cs : List AV} {c : Value} (hB : getB h s id = some (.bld T cs)) (hx : AR (envOf w (full h s) L) (.ptr id o) c) :
    ∃ b, c = .pointer (some ⟨b, o, none⟩) ∧ w.shape? b = some (T, cs.length) := by
  have hk := hr.blk id _ (by rw [getB_full]; exact hB)
  obtain ⟨_, b, C, h1, h2, h3, _⟩ := hk
  cases hx with
  | @ptr _ _ b' hid hgen hb =>
    have e : b = b' := by rw [hb] at h1; exact (Option.some.inj h1).symm
    subst e
    have h2' : w.heap[b]? = some (Obj.cells C T (0, 0)) := h2
    exact ⟨b, rfl, by simp [World.shape?, h2', h3]⟩

theorem i_toU (hr : HR w (full h s) L) (ht : TR (envOf w (full h s) L) a s.t) {o : Oper} {t1 t2 t : TypeId} {n : Nat} {x : Operand} {X : Opd} (ho : o.op = .convert t1 t2 x) (hu1 : P.underlying t1 = some (.pointer t)) (hu2 : P.underlying t2 = some .unsafePointer) (hs : szT P t = some n) (hn : n ≠ 0)
    (hx : cOpd x = some X) (he : evI h nb s (.toU X) = some (v, s', ws)) : Im w (full h s) L ((execOp a.eval o).run P w) v (full h s') ws ∧ s'.t = s.t := by
  simp only [evI] at he
  split at he
  · rename_i id off hX
    split at he
    · rename_i T cs hB
      split at he
      · rename_i hlt
        cases he
        obtain ⟨b, e1, e2⟩ := bld_at hr hB (cOpd_ok ht hx hX)
        have hq := cOpd_ok ht hx hX
        unfold szT at hs
        cases hi : P.info? t with
        | none => simp [hi] at hs
        | some j =>
          simp [hi] at hs
          refine ⟨Im.same hr (cv := a.eval x) ?_ hq, rfl⟩
          rw [e1]
          simp only [execOp, ho, e1]
          rw [Sem.run_bind, Lib.run_to_unsafe w ⟨b, off, none⟩ hu1 hu2 hi (by rw [hs]; exact hn) e2 hlt]
          rfl
      · cases he
    · cases he
  · cases he

theorem bldTs_ok {u : TypeId} {p : TypeId × Nat} (h : (bldTs P u).contains p = true) : p.2 = P.cellsOf p.1 ∧ liesAt P P.depth p.1 (p.2 / P.cellsOf p.1) 0 u 1 = true := by
  have h' := List.contains_iff_mem.1 h
  unfold bldTs at h'
  obtain ⟨t, h1, rfl⟩ := List.mem_map.1 h'
  have h2 := (List.mem_filter.1 h1).2
  simp only [Bool.and_eq_true] at h2
  exact ⟨rfl, h2.2⟩

theorem i_fromU (hr : HR w (full h s) L) (ht : TR (envOf w (full h s) L) a s.t) {o : Oper} {t1 t2 u : TypeId} {x : Operand} {X : Opd} (ho : o.op = .convert t1 t2 x) (hu1 : P.underlying t1 = some .unsafePointer) (hu2 : P.underlying t2 = some (.pointer u)) (hs : (P.info? u).isSome = true)
    (hx : cOpd x = some X) (he : evI h nb s (.fromU (bldTs P u) X) = some (v, s', ws)) : Im w (full h s) L ((execOp a.eval o).run P w) v (full h s') ws ∧ s'.t = s.t := by
  simp only [evI] at he
  split at he
  · rename_i id off hX
    split at he
    · rename_i T cs hB
      split at he
      · rename_i hc
        cases he
        obtain ⟨b, e1, e2⟩ := bld_at hr hB (cOpd_ok ht hx hX)
        have hq := cOpd_ok ht hx hX
        obtain ⟨j, hi⟩ := Option.isSome_iff_exists.1 hs
        obtain ⟨c1, c2⟩ := bldTs_ok hc.2
        refine ⟨Im.same hr (cv := a.eval x) ?_ hq, rfl⟩
        rw [e1]
        simp only [execOp, ho, e1]
        rw [Sem.run_bind, Lib.run_from_unsafe w ⟨b, off, none⟩ hu1 hu2 hi e2 (by rw [hc.1]; exact c2)]
        rfl
      · cases he
    · cases he
  · cases he

theorem i_neqp (hr : HR w (full h s) L) (ht : TR (envOf w (full h s) L) a s.t) {o : Oper} {t yt : TypeId} {x y : Operand} {X Y : Opd} (ho : o.op = .binOp .neq t x y yt) (hp : ptrT P t = true) (hx : cOpd x = some X) (hy : cOpd y = some Y)
    (he : evI h nb s (.neqp X Y) = some (v, s', ws)) : Im w (full h s) L ((execOp a.eval o).run P w) v (full h s') ws ∧ s'.t = s.t := by
  unfold ptrT at hp
  split at hp
  case h_2 => cases hp
  rename_i te hu
  obtain ⟨j, hi⟩ := Option.isSome_iff_exists.1 hp
  simp only [evI] at he
  split at he
  · rename_i id off id' off' hX hY
    split at he
    · rename_i hc
      obtain ⟨rfl, rfl⟩ := hc
      cases he
      have h1 := cOpd_ok ht hx hX
      have h2 := cOpd_ok ht hy hY
      refine ⟨Im.same hr (cv := .bool false) ?_ (.g (.bool _)), rfl⟩
      generalize hex : a.eval x = vx at h1
      generalize hey : a.eval y = vy at h2
      cases h1 with
      | @ptr _ _ b1 hid1 hg1 hb1 =>
        cases h2 with
        | @ptr _ _ b2 hid2 hg2 hb2 =>
          rw [hb1] at hb2; cases hb2
          simp only [execOp, ho, hex, hey]
          have hg : eqGuard .neq t x y (.pointer (some ⟨b1, off, none⟩)) (.pointer (some ⟨b1, off, none⟩)) = pure () := rfl
          rw [hg, pure_bind, Sem.run_bind, Lib.run_neq_ptr_same w ⟨b1, off, none⟩ hu hi]
          rfl
    · cases he
  · cases he

/-- The bytes of a row, as a text: from then on they stay. -/
theorem run_sdata (hr : HR w (full h s) L) {id g sz off len : Nat} {c : Value} (hx : AR (envOf w (full h s) L) (.ms id g sz off len) c) (hcur : cur h s id g = true) (cts : Array TypeId) (ty : TypeId) :
    (g = 1 → (Builtin.unsafeSliceData_ cts ty #[c]).run P w = .ok (.pointer none) w) ∧
    (0 < len → ∃ cv, (Builtin.unsafeSliceData_ cts ty #[c]).run P w = .ok cv w ∧ AR (envOf w (full h s) L) (.rp id g sz off 0) cv) := by
  obtain ⟨hid, hg0, hgen, hm⟩ := ms_ok hr hcur hx
  have hnil := ms_nil hr hcur hx
  constructor
  · intro h1
    have hb := hnil.1 h1
    unfold MsOk at hm
    rw [hb] at hm
    obtain ⟨rfl, _, _⟩ := hm
    exact Lib.run_unsafeSliceData_nil w _ _ _ _
  · intro hlen
    cases hb : (L id).blk with
    | none =>
      unfold MsOk at hm
      rw [hb] at hm
      obtain ⟨_, _, rfl⟩ := hm
      omega
    | some b =>
      unfold MsOk at hm
      rw [hb] at hm
      obtain ⟨A, cp, rfl, hoc, hlc, hA⟩ := hm
      have hA' : A = ⟨b, off * sz, none⟩ := hA.resolve_right (by omega)
      subst hA'
      exact ⟨_, Lib.run_unsafeSliceData_row w _ _ _ _ _ (by omega), .rp (by simpa [envOf] using hid) hg0 (Nat.le_of_eq hgen) rfl (fun _ => ⟨b, hb, rfl⟩)⟩

theorem run_ustr_row (hr : HR w (full h s) L) {id g sz e n : Nat} {els : List (List GV)} {c : Value} {bs : List UInt8} (hx : AR (envOf w (full h s) L) (.rp id g sz 0 0) c) (hB : getB h s id = some (.trow e 1 g els)) (hn : 0 < n) (hl : n ≤ els.length) (h63 : n ≤ 9223372036854775807)
    (hb : evI.bytesOfG (els.take n) = some bs) {pt it ty : TypeId} (hp : P.underlying pt = some (.pointer e)) (hc : P.cellsOf e = 1) :
    ∃ w' L', (Builtin.unsafeString_ #[pt, it] ty #[c, .int .i64 n]).run P w = .ok (.string ⟨bs.toArray⟩) w' ∧ HR w' ((full h s).set id (.fro 1 g els)) L' ∧ Ext (envOf w (full h s) L) (envOf w' ((full h s).set id (.fro 1 g els)) L') ∧ Same w w' (full h s) L L' [id] := by
  have hget : (full h s)[id]? = some (.trow e 1 g els) := by rw [getB_full]; exact hB
  obtain ⟨hg1, ⟨hg2, hg3⟩, hrow⟩ := hr.blk id _ hget
  have hg1' : (L id).gen = g := hg1
  cases hx with
  | rp hid h0 hle h1 hm =>
    obtain ⟨b, hbk, rfl⟩ := hm hg1.symm
    rw [hbk] at hrow
    obtain ⟨C, hb2, hC1, hC2, hC3⟩ := hrow
    have hb2' : w.heap[b]? = some (.cells C e (0, 0)) := hb2
    have hbk' : (L id).blk = some b := hbk
    obtain ⟨ns, hns, rfl⟩ := intsOfG hb
    have hnl : ns.length = n := by
      have := congrArg List.length hns
      simp at this; omega
    have hcs : els.length ≤ C.size := by rw [hC1]; simpa using hC2
    have hrun := run_ustr (P := P) w pt it ty e hp hc b C.size (by simp [World.shape?, hb2']) ns (by omega) (by omega) (by omega) (fun j x hj => by
      have hjl : j < ns.length := (List.getElem?_eq_some_iff.1 hj).1
      have hel : els[j]? = some [.int .u8 x] := by
        have := congrArg (·[j]?) hns
        simp only [List.getElem?_map, hj, Option.map_some] at this
        rw [List.getElem?_take_of_lt (by omega)] at this
        exact this
      obtain ⟨_, h2⟩ := hC3 j _ hel
      obtain ⟨u, u1, u2⟩ := h2 0 (.int .u8 x) rfl
      have u3 := u2.inv_int
      rw [Nat.mul_one, Nat.add_zero, u3] at u1
      rw [add_none]
      simp only [World.cell?, hb2', Nat.zero_add]
      simpa using u1)
    obtain ⟨f1, f2, f3⟩ := frz_heap w b C e 0 ns.length (by omega) hb2'
    have hfz : ∀ (w : World) (p : Addr) (n : Nat), (w.freeze p n).os = w.os ∧ (w.freeze p n).tape = w.tape ∧ (w.freeze p n).output = w.output := by
      intro w p n; unfold World.freeze; split <;> exact ⟨rfl, rfl, rfl⟩
    obtain ⟨z1, z2, z3⟩ := hfz w ⟨b, 0, none⟩ ns.length
    obtain ⟨e1, e2⟩ := hr.turn (w' := w.freeze ⟨b, 0, none⟩ ns.length) (k' := .fro 1 g els) hget rfl (L id) z1 z2 z3 (by rw [f3]; exact Nat.le_refl _) (fun b' _ hne => f2 b' (fun e => hne (by rw [e]; exact hbk'))) (.refl _ _) (fun b' hb' => .inl hb') (fun hext => by
      have hLid : (envOf (w.freeze ⟨b, 0, none⟩ ns.length) ((full h s).set id (.fro 1 g els)) (updL L id (L id))).L id = L id := updL_self _ _ _
      refine ⟨by rw [hLid]; exact hg1, hg3, ?_⟩
      rw [hLid, hbk']
      refine ⟨?_, ?_, e, C, _, f1, ?_⟩
      · show b < (w.freeze ⟨b, 0, none⟩ ns.length).heap.size
        rw [f3]; exact (Array.getElem?_eq_some_iff.1 hb2').1
      · rintro ⟨j, k, k1, k2, k3⟩
        by_cases hj : j = id
        · subst hj
          rw [List.getElem?_set_self (by simpa [envOf] using hid)] at k1
          cases k1; cases k2
        · rw [List.getElem?_set_ne (fun e => hj e.symm)] at k1
          rw [updL_ne _ _ _ hj] at k3
          exact hj (hr.inj j id b k _ k1 hget k2 rfl k3 hbk')
      · exact (show RowsIn (envOf w (full h s) L) C 1 (L id).cap els from ⟨hC1, hC2, hC3⟩).mono hext)
    refine ⟨_, _, ?_, e1, e2, fun j hj hne => ⟨updL_ne _ _ _ (by simpa using hne), fun ⟨x, hx, lx⟩ b' hb' => f2 b' (fun e => ?_)⟩⟩
    · rw [← hnl]; simpa using hrun
    · subst e
      exact hne (by simp [hr.inj j id b' x _ hx hget lx rfl hb' hbk'])

end
end Go.AM
end
section
set_option linter.unusedSimpArgs false
set_option linter.unusedVariables false
namespace Go.AM
open Go

def KdOk : LK → TypeDesc → Prop
  | .b, .bool => True
  | .i, .int _ => True
  | .s, .string => True
  | _, _ => False

theorem keyK_ok {P : Program} {t : TypeId} {kk : LK} (h : keyK P t = some kk) : ∃ d, P.underlying t = some d ∧ KdOk kk d := by
  unfold keyK at h
  split at h
  · rename_i hu; cases h; exact ⟨_, hu, trivial⟩
  · rename_i hu; cases h; exact ⟨_, hu, trivial⟩
  · rename_i hu; cases h; exact ⟨_, hu, trivial⟩
  · cases h

theorem run_checkKey1 {P : Program} {w : World} {kt : TypeId} {d : TypeDesc} {kk : LK} {k : Value} (hd : P.underlying kt = some d) (hk : KdOk kk d) (e : Bool) (n : Nat) : (Instr.checkKey e (n + 1) kt k).run P w = .ok () w := by
  unfold Instr.checkKey
  simp only [Sem.run_bind, run_underlying hd, Result.andThen]
  cases kk <;> cases d <;> simp [KdOk] at hk <;> rfl

theorem bytes_list_beq (x y : List UInt8) : ((⟨x.toArray⟩ : ByteArray) == ⟨y.toArray⟩) = (x == y) := by
  rw [Bool.eq_iff_iff, MapKept.bytes_beq]
  simp

theorem same_ok {E : Env} {kk : LK} {d : TypeDesc} {k g : GV} {ck cg : Value} {b : Bool} (hd : KdOk kk d) (hk : GR E k ck) (hg : GR E g cg) (h : eqG kk k g = some b) : Instr.sameNow d ck cg = some b ∧ (b = true → ck = cg) ∧ (b = true → Instr.sameBits 10000 cg ck = true) := by
  cases kk <;> cases k <;> cases g <;> simp only [eqG] at h <;> try (cases h; done)
  · cases d <;> simp [KdOk] at hd
    cases hk; cases hg; cases h
    exact ⟨rfl, fun e => by simp at e; rw [e], fun e => by simp at e; rw [e]; simp [Instr.sameBits]⟩
  · cases d <;> simp [KdOk] at hd
    cases hk; cases hg
    split at h
    · rename_i hkk
      cases h
      subst hkk
      exact ⟨by simp [Instr.sameNow], fun e => by simp at e; rw [e], fun e => by simp at e; rw [e]; simp [Instr.sameBits]⟩
    · cases h
  · cases d <;> simp [KdOk] at hd
    cases hk; cases hg; cases h
    refine ⟨?_, fun e => by simp at e; rw [e], fun e => by simp at e; rw [e]; simp [Instr.sameBits, MapKept.bytes_beq]⟩
    simp only [Instr.sameNow]
    rw [bytes_list_beq]

theorem find_ok {E : Env} {kk : LK} {d : TypeDesc} {k : GV} {ck : Value} (hd : KdOk kk d) (hk : GR E k ck) : ∀ (es : List (GV × Option GV)) (en : List MapEntry) (i : Nat) (r : Option Nat), es.length = en.length →
    (∀ (j : Nat) (p : GV × Option GV) (e : MapEntry), es[j]? = some p → en[j]? = some e → GR E p.1 e.key ∧ VR E p.2 e.val) → findM kk k es = some r →
    (r = none ∧ Instr.findNow d ck en i = some none) ∨ ∃ j p e, r = some j ∧ es[j]? = some p ∧ en[j]? = some e ∧ Instr.findNow d ck en i = some (some (i + j, e.val)) ∧ Instr.sameBits 10000 e.key ck = true := by
  intro es
  induction es with
  | nil =>
    intro en i r hl he h
    cases en with
    | nil => simp [findM] at h; subst h; exact .inl ⟨rfl, rfl⟩
    | cons e en => simp at hl
  | cons p es ih =>
    intro en i r hl he h
    obtain ⟨a, g⟩ := p
    cases en with
    | nil => simp at hl
    | cons e en =>
      simp only [findM] at h
      obtain ⟨h1, h2⟩ := he 0 (a, g) e rfl rfl
      cases hq : eqG kk k a with
      | none => simp [hq] at h
      | some b =>
        obtain ⟨s1, s2, s3⟩ := same_ok hd hk h1 hq
        cases b with
        | true =>
          simp [hq] at h; subst h
          exact .inr ⟨0, (a, g), e, rfl, rfl, rfl, by simp [Instr.findNow, s1], s3 rfl⟩
        | false =>
          simp only [hq] at h
          cases hf : findM kk k es with
          | none => simp [hf] at h
          | some r1 =>
            rcases ih en (i + 1) r1 (by simpa using hl) (fun j p e h1 h2 => he (j + 1) p e (by simpa using h1) (by simpa using h2)) hf with ⟨rfl, q1⟩ | ⟨j, p, e2, rfl, q1, q2, q3, q4⟩
            · simp [hf] at h; subst h
              exact .inl ⟨rfl, by simp [Instr.findNow, s1, q1]⟩
            · simp [hf] at h; subst h
              exact .inr ⟨j + 1, p, e2, rfl, by simpa using q1, by simpa using q2, by simp [Instr.findNow, s1, q3]; omega, q4⟩

theorem VR.av {E : Env} {g : Option GV} {c : Value} (h : VR E g c) : AR E (mvV g) c := by
  cases g with
  | some g => exact .g h
  | none =>
    have h' : c = .agg #[] := h
    subst h'
    exact .agg rfl (fun j a v h1 _ => by simp at h1) (fun j v h1 => by simp at h1)

theorem mvG_ok {E : Env} {x : AV} {g : Option GV} {c : Value} (h : mvG x = some g) (hx : AR E x c) : VR E g c := by
  unfold mvG at h
  split at h
  · cases h; exact hx.inv_g
  · cases h
    cases hx with
    | @agg _ C hn _ _ =>
      have : C = #[] := by apply Array.eq_empty_of_size_eq_zero; simpa using hn.symm
      rw [this]; rfl
  · cases h

theorem elZ_ok {P : Program} {t : TypeId} {g : Option GV} (h : elZ P t = some g) : ∃ i z, P.info? t = some i ∧ i.zero = some z ∧ ∀ E, VR E g z := by
  unfold elZ at h
  cases hi : P.info? t with
  | none => simp [hi] at h
  | some i =>
    cases hz : i.zero with
    | none => simp [hi, hz] at h
    | some z =>
      simp only [hi, hz, Option.bind_some] at h
      refine ⟨i, z, rfl, hz, fun E => ?_⟩
      split at h
      · rename_i cs heq
        cases heq
        split at h
        · rename_i h0
          cases h
          have : cs = #[] := Array.eq_empty_of_size_eq_zero h0
          rw [this]; rfl
        · cases h
      · rename_i z' _ heq
        cases heq
        split at h
        · rename_i g' hc
          cases h
          exact (cVal_ok (E := E) hc).inv_g
        · cases h
      · cases h

theorem mapT_ok {P : Program} {t : TypeId} {kk : LK} {z : Option GV} (h : mapT P t = some (kk, z)) : ∃ key elem d, P.underlying t = some (.map key elem) ∧ P.underlying key = some d ∧ KdOk kk d ∧ ∃ i zv, P.info? elem = some i ∧ i.zero = some zv ∧ ∀ E, VR E z zv := by
  unfold mapT at h
  split at h
  · rename_i key elem hu
    split at h
    · rename_i kk' z' h1 h2
      cases h
      obtain ⟨d, hd, hk⟩ := keyK_ok h1
      exact ⟨key, elem, d, hu, hd, hk, elZ_ok h2⟩
    · cases h
  · cases h

section
variable {w w' : World} {H : List Blk} {L : Nat → Lc}
theorem HR.newMap (hr : HR w H L) (hg : Grows w w') (b : Nat) (hlt : w.heap.size ≤ b) (hb : w'.heap[b]? = some (.map #[] 0)) (ws : List Nat) :
    ∃ L', HR w' (H ++ [.map []]) L' ∧ Ext (envOf w H L) (envOf w' (H ++ [.map []]) L') ∧ Same w w' H L L' ws ∧ AR (envOf w' (H ++ [.map []]) L') (.mp H.length) (.map (some b)) := by
  obtain ⟨k1, k2, k3⟩ := hr.add_same hg (.map []) ⟨some b, 0, 0, true⟩ (by simpa using hlt) (fun he => by
    refine ⟨?_, b, #[], 0, ?_, hb, ⟨rfl, fun j p e hj _ => by simp at hj⟩, BornOk.empty 0⟩
    · show ((updL L H.length _) H.length).st = true; rw [updL_self]
    · show ((updL L H.length _) H.length).blk = some b; rw [updL_self]) ws
  refine ⟨_, k1, k2, k3, .mp (by simp [envOf]) ?_ ?_⟩
  · show ((updL L H.length _) H.length).st = true; rw [updL_self]
  · show ((updL L H.length _) H.length).blk = some b; rw [updL_self]
end

section
variable {P : Program} {h : List Blk} {s s' : St} {a : Act} {w : World} {L : Nat → Lc} {v : AV} {ws : List Nat} {drw : Option Nat} {nb : Nat}

theorem i_mkmap (hr : HR w (full h s) L) {o : Oper} {t : TypeId} (ho : o.op = .makeMap t none) (he : evI h nb s .mkmap = some (v, s', ws)) :
    Im w (full h s) L ((execOp a.eval o).run P w) v (full h s') ws ∧ s'.t = s.t := by
  simp [evI] at he
  obtain ⟨rfl, rfl, rfl⟩ := he
  obtain ⟨L', h1, h2, h3, h4⟩ := hr.newMap (Grows.push w (.map #[] 0)) w.heap.size (Nat.le_refl _) (heap_push _ _) []
  rw [full_length] at h4
  refine ⟨?_, rfl⟩
  rw [full_push]
  refine im_value (cv := .map (some w.heap.size)) ?_ h4 h1 h2 h3
  simp only [execOp, ho, Instr.makeMap, Option.map_none]
  rfl

/-- A map of the calls' own. -/
theorem map_at (hr : HR w (full h s) L) {id : Nat} {es : List (GV × Option GV)} {c : Value} (hB : getB h s id = some (.map es)) (hx : AR (envOf w (full h s) L) (.mp id) c) :
    ∃ b en ck, c = .map (some b) ∧ (L id).blk = some b ∧ (L id).st = true ∧ w.heap[b]? = some (.map en ck) ∧ EntriesIn (envOf w (full h s) L) es en ∧ BornOk en ck := by
  have hk := hr.blk id _ (by rw [getB_full]; exact hB)
  obtain ⟨h0, b, en, ck, h1, h2, h3, h4⟩ := hk
  cases hx with
  | @mp _ b' hid hgen hb =>
    have e : b = b' := by rw [hb] at h1; exact (Option.some.inj h1).symm
    subst e
    exact ⟨b, en, ck, rfl, hb, hgen, h2, h3, h4⟩

theorem run_lookup {t key elem : TypeId} {d : TypeDesc} {kk : LK} {r : Nat} {en : Array MapEntry} {ck : Nat} {kv z : Value} {res : Option (Nat × Value)} {i : TypeInfo} (cm : Bool) (ht : P.underlying t = some (.map key elem)) (hd : P.underlying key = some d) (hk : KdOk kk d)
    (hb : w.heap[r]? = some (.map en ck)) (hf : Instr.findNow d kv en.toList 0 = some res) (hi : P.info? elem = some i) (hz : i.zero = some z) :
    (Instr.lookup t (.map (some r)) kv cm).run P w = .ok (if cm = true then .tuple #[(res.map (·.2)).getD z, .bool res.isSome] else (res.map (·.2)).getD z) w := by
  unfold Instr.lookup
  simp only [Sem.run_bind, run_underlying ht, Result.andThen, MapKept.run_getObj_map hb, Sem.run_pure, run_checkKey1 hd hk, MapKept.run_findKey hd hf]
  cases res with
  | none => simp [zeroValue, typeInfo, hi, hz]
  | some p => simp

theorem i_mget (hr : HR w (full h s) L) (ht : TR (envOf w (full h s) L) a s.t) {o : Oper} {t : TypeId} {x k : Operand} {X K : Opd} {cm : Bool} {kk : LK} {z : Option GV} (ho : o.op = .lookup t x k cm) (hm : mapT P t = some (kk, z)) (hx : cOpd x = some X) (hk : cOpd k = some K)
    (he : evI h nb s (.mget cm kk z X K) = some (v, s', ws)) : Im w (full h s) L ((execOp a.eval o).run P w) v (full h s') ws ∧ s'.t = s.t := by
  obtain ⟨key, elem, d, u1, u2, hd, i, zv, hi, hz, hzr⟩ := mapT_ok hm
  simp only [evI] at he
  split at he
  · rename_i id kv hX hK
    split at he
    · rename_i es hB
      split at he
      · rename_i r hg
        cases he
        obtain ⟨b, en, ck, e1, e2, e3, e4, e5, e6⟩ := map_at hr hB (cOpd_ok ht hx hX)
        have hkr := (cOpd_ok ht hk hK).inv_g
        unfold mgetV at hg
        cases hf : findM kk kv es with
        | none => simp [hf] at hg
        | some fr =>
          simp only [hf] at hg
          have hfo := find_ok hd hkr es en.toList 0 fr (by simpa using e5.1) (fun j p e h1 h2 => e5.2 j p e h1 (by simpa using h2)) hf
          have fin : ∀ (res : Option (Nat × Value)) (g : Option GV), Instr.findNow d (a.eval k) en.toList 0 = some res → VR (envOf w (full h s) L) g ((res.map (·.2)).getD zv) → res.isSome = fr.isSome →
              v = (if cm = true then AV.tup [mvV g, .g (.bool fr.isSome)] else mvV g) → Im w (full h s) L ((execOp a.eval o).run P w) v (full h s) [] ∧ s.t = s.t := by
            intro res g q1 q2 q3 q4
            refine ⟨Im.same hr (cv := if cm = true then .tuple #[(res.map (·.2)).getD zv, .bool res.isSome] else (res.map (·.2)).getD zv) ?_ ?_, rfl⟩
            · simp only [execOp, ho, e1]
              rw [Sem.run_bind, run_lookup cm u1 u2 hd e4 q1 hi hz]
              rfl
            · rw [q4]
              cases cm
              · simp only [Bool.false_eq_true, if_false]; exact q2.av
              · simp only [if_true]
                refine .tup rfl (fun j x y hx hy => ?_)
                match j with
                | 0 => simp at hx hy; subst hx hy; exact q2.av
                | 1 => simp at hx hy; subst hx hy; rw [q3]; exact .g (.bool _)
                | j + 2 => simp at hx
          rcases hfo with ⟨rfl, q1⟩ | ⟨j, p, e, rfl, q1, q2, q3, q4⟩
          · simp only [Option.some.injEq] at hg
            exact fin none z q1 (hzr _) rfl hg.symm
          · simp only [q1, Option.map_some, Option.some.injEq] at hg
            refine fin (some (0 + j, e.val)) p.2 q3 ?_ rfl hg.symm
            exact (e5.2 j p e q1 (by simpa using q2)).2
      · cases he
    · cases he
  · cases he

theorem run_mapUpdate {t key elem : TypeId} {d : TypeDesc} {kk : LK} {r : Nat} {en : Array MapEntry} {ck : Nat} {kv val : Value} (ht : P.underlying t = some (.map key elem)) (hd : P.underlying key = some d) (hk : KdOk kk d)
    (hb : w.heap[r]? = some (.map en ck)) :
    (Instr.findNow d kv en.toList 0 = some none → (Instr.mapUpdate t (.map (some r)) kv val).run P w = .ok () { w with heap := w.heap.setIfInBounds r (.map (en.push ⟨kv, val, ck⟩) (ck + 1)) }) ∧
    (∀ j e, Instr.findNow d kv en.toList 0 = some (some (j, e.val)) → en[j]? = some e → Instr.sameBits 10000 e.key kv = true → (Instr.mapUpdate t (.map (some r)) kv val).run P w = .ok () { w with heap := w.heap.setIfInBounds r (.map (en.modify j fun e => { e with key := kv, val := val }) ck) }) := by
  refine ⟨fun hf => ?_, fun j e hf he hs => ?_⟩
  · unfold Instr.mapUpdate
    simp only [Sem.run_bind, run_underlying ht, Result.andThen, MapKept.run_getObj_map hb, run_checkKey1 hd hk, MapKept.run_findKey hd hf, MapKept.run_setObj_map _ hb]
  · unfold Instr.mapUpdate
    simp only [Sem.run_bind, run_underlying ht, Result.andThen, MapKept.run_getObj_map hb, run_checkKey1 hd hk, MapKept.run_findKey hd hf, he, Option.map_some, Option.getD_some, Instr.keyThatStays, hs, if_true, Sem.run_pure, MapKept.run_setObj_map _ hb]

theorem i_mset (hr : HR w (full h s) L) (ht : TR (envOf w (full h s) L) a s.t) {o : Oper} {t : TypeId} {x k y : Operand} {X K Y : Opd} {kk : LK} {z : Option GV} (ho : o.op = .mapUpdate t x k y ∨ o.op = .insert t x k y) (hm : mapT P t = some (kk, z)) (hx : cOpd x = some X) (hk : cOpd k = some K) (hy : cOpd y = some Y)
    (he : evI h nb s (.mset kk X K Y) = some (v, s', ws)) : Im w (full h s) L ((execOp a.eval o).run P w) v (full h s') ws ∧ s'.t = s.t := by
  obtain ⟨key, elem, d, u1, u2, hd, i, zv, hi, hz, hzr⟩ := mapT_ok hm
  simp only [evI] at he
  split at he
  · rename_i id kv vv hX hK hY
    split at he
    · rename_i es g hB hg
      split at he
      · rename_i es' hs
        cases he
        have hxr := cOpd_ok ht hx hX
        obtain ⟨b, en, ck, e1, e2, e3, e4, e5, e6⟩ := map_at hr hB hxr
        have hkr := (cOpd_ok ht hk hK).inv_g
        have hvr := mvG_ok hg (cOpd_ok ht hy hY)
        have hrun : ∀ {w' : World}, (Instr.mapUpdate t (.map (some b)) (a.eval k) (a.eval y)).run P w = .ok () w' → (execOp a.eval o).run P w = .ok .skip w' := by
          intro w' q
          rcases ho with ho | ho <;> (simp only [execOp, ho, e1]; rw [Sem.run_bind, q]; rfl)
        have hid : (full h s)[id]? = some (.map es) := by rw [getB_full]; exact hB
        obtain ⟨r1, r2⟩ := run_mapUpdate (P := P) (kv := a.eval k) (val := a.eval y) u1 u2 hd e4
        -- the map, once it has turned
        have turn : ∀ (en' : Array MapEntry) (ck' : Nat), (execOp a.eval o).run P w = .ok .skip { w with heap := w.heap.setIfInBounds b (.map en' ck') } → EntriesIn (envOf w (full h s) L) es' en' → BornOk en' ck' →
            Im w (full h s) L ((execOp a.eval o).run P w) .undef (full h (setB h s id (.map es'))) [id] ∧ (setB h s id (.map es')).t = s.t := by
          intro en' ck' hq hin hbo
          obtain ⟨hp1, hp2⟩ := MapKept.heap_set (o' := .map en' ck') e4
          have hblt : b < w.heap.size := (Array.getElem?_eq_some_iff.1 e4).1
          obtain ⟨t1, t2⟩ := hr.turn (w' := { w with heap := w.heap.setIfInBounds b (.map en' ck') }) (k' := .map es') hid rfl (L id) rfl rfl rfl (by simp) (fun b' _ hne => hp2 b' (fun e => hne (by rw [e]; exact e2))) (.refl _ _) (fun b' hb' => .inl hb')
            (fun hext => by
              refine ⟨?_, b, en', ck', ?_, hp1, hin.mono hext, hbo⟩
              · show ((updL L id (L id)) id).st = true; rw [updL_self]; exact e3
              · show ((updL L id (L id)) id).blk = some b; rw [updL_self]; exact e2)
          rw [full_setB, setB_t]
          refine ⟨⟨_, _, _, hq, .inr ⟨rfl, rfl⟩, t1, t2, fun j hj hne => ⟨updL_ne _ _ _ (by simpa using hne), fun ⟨x', hx', lx⟩ b' hb' => hp2 b' (fun e => ?_)⟩⟩, rfl⟩
          subst e
          exact hne (by simp [hr.inj j id b' x' _ hx' hid lx rfl hb' e2])
        unfold msetV at hs
        cases hf : findM kk kv es with
        | none => simp [hf] at hs
        | some fr =>
          have hfo := find_ok hd hkr es en.toList 0 fr (by simpa using e5.1) (fun j p e h1 h2 => e5.2 j p e h1 (by simpa using h2)) hf
          rcases hfo with ⟨rfl, q1⟩ | ⟨j, p, e, rfl, q1, q2, q3, q4⟩
          · simp [hf] at hs
            subst hs
            refine turn _ _ (hrun (r1 q1)) ⟨by simp [e5.1], fun j p e h1 h2 => ?_⟩ (e6.push _ _)
            by_cases hj : j < es.length
            · rw [List.getElem?_append_left hj] at h1
              rw [Array.getElem?_push, if_neg (by have := e5.1; omega)] at h2
              exact e5.2 j p e h1 h2
            · have hjl : j = es.length := by
                have := (List.getElem?_eq_some_iff.1 h1).1
                simp at this; omega
              subst hjl
              simp at h1
              rw [Array.getElem?_push, if_pos e5.1] at h2
              cases h2
              subst h1
              exact ⟨hkr, hvr⟩
          · simp [hf] at hs
            subst hs
            have q3' : Instr.findNow d (a.eval k) en.toList 0 = some (some (j, e.val)) := by simpa using q3
            have q2' : en[j]? = some e := by simpa using q2
            refine turn _ _ (hrun (r2 j e q3' q2' q4)) ⟨by simp [e5.1], fun j' p' e' h1 h2 => ?_⟩ (e6.modify _ _ _)
            rw [Array.getElem?_modify] at h2
            by_cases hj : j = j'
            · subst hj
              rw [List.getElem?_set_self (List.getElem?_eq_some_iff.1 q1).1] at h1
              rw [if_pos rfl, q2'] at h2
              cases h1; cases h2
              exact ⟨hkr, hvr⟩
            · rw [List.getElem?_set_ne hj] at h1
              rw [if_neg hj] at h2
              exact e5.2 j' p' e' h1 h2
      · cases he
    · cases he
  · cases he
end
end Go.AM
end
section
set_option linter.unusedSimpArgs false
set_option linter.unusedVariables false
namespace Go.AM
open Go

def KdS (P : Program) (t : TypeId) (ks : List LK) : Prop := ∃ fs, P.underlying t = some (.struct fs) ∧ simpleF P fs.toList 0 = true ∧ flatK P 20 t = some ks

theorem keyS_ok {P : Program} {t : TypeId} {ks : List LK} (h : keyS P t = some ks) : KdS P t ks := by
  unfold keyS at h
  split at h
  · rename_i fs hu
    split at h
    · rename_i hs; exact ⟨fs, hu, hs, h⟩
    · cases h
  · cases h

theorem run_checkFields {P : Program} {w : World} {cs : Array Value} (e : Bool) (n : Nat) : ∀ (l : List Field) (i : Nat), simpleF P l i = true → i + l.length ≤ cs.size →
    (forIn l PUnit.unit (fun (f : Field) (_ : PUnit) => ((if f.name ≠ "_" then do
      let x ← part f.type cs f.offset
      Instr.checkKey e (n + 1) f.type x
      pure (ForInStep.yield PUnit.unit)
      else pure (ForInStep.yield PUnit.unit)) : Sem (ForInStep PUnit)))).run P w = .ok PUnit.unit w := by
  intro l
  induction l with
  | nil => intro i h hl; simp
  | cons f l ih =>
    intro i h hl
    simp only [simpleF, Bool.and_eq_true, bne_iff_ne, beq_iff_eq] at h
    obtain ⟨⟨⟨⟨h1, h2⟩, h3⟩, h4⟩, h5⟩ := h
    simp only [List.length_cons] at hl
    have hlt : i < cs.size := by omega
    have hk : ∃ d kk, P.underlying f.type = some d ∧ KdOk kk d ∧ aggT P f.type = some false := by
      split at h4
      · rename_i hu; exact ⟨_, .b, hu, trivial, by simp [aggT, hu]⟩
      · rename_i hu; exact ⟨_, .i, hu, trivial, by simp [aggT, hu]⟩
      · rename_i hu; exact ⟨_, .s, hu, trivial, by simp [aggT, hu]⟩
      · cases h4
    obtain ⟨d, kk, hu, hkd, ha⟩ := hk
    have hp := run_part ha h3 cs f.offset w
    rw [h2] at hp
    simp only [Bool.false_eq_true, if_false, Array.getElem?_eq_getElem hlt] at hp
    rw [List.forIn_cons]
    simp only [Sem.run_bind, ne_eq, h1, not_false_eq_true, if_true, h2, hp, Result.andThen_ok, run_checkKey1 hu hkd, Sem.run_pure]
    exact ih (i + 1) h5 (by omega)

theorem simpleF_size {P : Program} {l : List Field} : ∀ {i : Nat}, simpleF P l i = true → ∀ d ks, flatF (flatK P (d + 1)) l i = some ks → ks.length = l.length := by
  induction l with
  | nil => intro i h d ks hf; simp [flatF] at hf; subst hf; rfl
  | cons f l ih =>
    intro i h d ks hf
    simp only [simpleF, Bool.and_eq_true] at h
    obtain ⟨⟨⟨⟨h1, h2⟩, h3⟩, h4⟩, h5⟩ := h
    simp only [flatF] at hf
    split at hf
    · cases hk1 : flatK P (d + 1) f.type with
      | none => simp [hk1] at hf
      | some k1 =>
        cases hk2 : flatF (flatK P (d + 1)) l (i + k1.length) with
        | none => simp [hk1, hk2] at hf
        | some k2 =>
          simp [hk1, hk2] at hf
          subst hf
          have hs : k1.length = 1 := by
            cases hu : P.underlying f.type with
            | none => rw [hu] at h4; cases h4
            | some u =>
              rw [hu] at h4
              cases u <;> first | (cases h4; done) | (simp [flatK, hu] at hk1; obtain ⟨_, rfl⟩ := hk1; rfl)
          rw [hs] at hk2
          have := ih h5 d k2 hk2
          simp [hs, this]; omega
    · cases hf

theorem run_checkKeyS {P : Program} {w : World} {kt : TypeId} {ks : List LK} {cs : Array Value} (hd : KdS P kt ks) (hl : cs.size = ks.length) (e : Bool) (n : Nat) : (Instr.checkKey e (n + 2) kt (.agg cs)).run P w = .ok () w := by
  obtain ⟨fs, hu, hs, hf⟩ := hd
  have hlen : ks.length = fs.toList.length := by
    rw [show (20 : Nat) = 18 + 1 + 1 from rfl] at hf
    unfold flatK at hf
    rw [hu] at hf
    simp only at hf
    split at hf
    · cases hf
    · split at hf
      · rename_i ks' hk
        split at hf
        · cases hf; exact simpleF_size hs 18 _ hk
        · cases hf
      · cases hf
  unfold Instr.checkKey
  simp only [Sem.run_bind, run_underlying hu, Result.andThen_ok]
  have := run_checkFields (w := w) (cs := cs) e n fs.toList 0 hs (by omega)
  rw [← Array.forIn_toList, this]
  rfl

theorem find2_ok {P : Program} {E : Env} {kt : TypeId} {ks : List LK} {k : List GV} {ck : Value} {w : World} (hd : KdS P kt ks) (hk : KR2 E k ck) : ∀ (es : List (List GV × Option GV)) (en : List MapEntry) (i : Nat) (r : Option Nat), es.length = en.length →
    (∀ (j : Nat) (p : List GV × Option GV) (e : MapEntry), es[j]? = some p → en[j]? = some e → KR2 E p.1 e.key ∧ VR E p.2 e.val) → findM2 ks k es = some r →
    (r = none ∧ (Instr.findAsking kt ck en i).run P w = .ok none w) ∨ ∃ j p e, r = some j ∧ es[j]? = some p ∧ en[j]? = some e ∧ (Instr.findAsking kt ck en i).run P w = .ok (some (i + j, e.val)) w ∧ p.1 = k := by
  obtain ⟨fs, hu, hs, hf⟩ := hd
  have hag : aggT P kt = some true := by simp [aggT, hu]
  intro es
  induction es with
  | nil =>
    intro en i r hl he h
    cases en with
    | nil => simp [findM2] at h; subst h; exact .inl ⟨rfl, by simp [Instr.findAsking]⟩
    | cons e en => simp at hl
  | cons p es ih =>
    intro en i r hl he h
    obtain ⟨a, g⟩ := p
    cases en with
    | nil => simp at hl
    | cons e en =>
      simp only [findM2] at h
      obtain ⟨h1, h2⟩ := he 0 (a, g) e rfl rfl
      cases hq : eqL ks (k.map .g) (a.map .g) with
      | none => simp [hq] at h
      | some b =>
        obtain ⟨xs, x1, x2, _⟩ := AR.crel hk
        obtain ⟨ys, y1, y2, _⟩ := AR.crel h1
        have hrun : (Op.equal kt ck e.key).run P w = .ok b w := by
          have := flat_eq (P := P) (E := E) 20 9980 kt true ks _ _ xs ys b w hf hag x2 y2 hq
          simp only [mkV, if_true] at this
          rw [x1, y1]; exact this
        cases b with
        | true =>
          simp [hq] at h; subst h
          refine .inr ⟨0, (a, g), e, rfl, rfl, rfl, ?_, ?_⟩
          · simp [Instr.findAsking, Sem.run_bind, hrun, Result.andThen]
          · have key : ∀ (ks : List LK) (x y : List GV), eqL ks (x.map .g) (y.map .g) = some true → y = x := by
              intro ks
              induction ks with
              | nil => intro x y h; cases x <;> cases y <;> simp [eqL] at h ⊢
              | cons k ks ihk =>
                intro x y h
                cases x with
                | nil => simp [eqL] at h
                | cons x xs =>
                  cases y with
                  | nil => simp [eqL] at h
                  | cons y ys =>
                    simp only [List.map_cons, eqL] at h
                    split at h
                    · rename_i p q hp hq2
                      simp at h
                      obtain ⟨rfl, rfl⟩ := h
                      rw [ihk xs ys hq2]
                      congr 1
                      cases k <;> cases x <;> cases y <;> simp [eqG] at hp <;> first | (rw [hp]; done) | (obtain ⟨rfl, rfl⟩ := hp; rfl)
                    · cases h
            exact key ks k a hq
        | false =>
          simp only [hq] at h
          cases hf2 : findM2 ks k es with
          | none => simp [hf2] at h
          | some r1 =>
            rcases ih en (i + 1) r1 (by simpa using hl) (fun j p e h1 h2 => he (j + 1) p e (by simpa using h1) (by simpa using h2)) hf2 with ⟨rfl, q1⟩ | ⟨j, p, e2, rfl, q1, q2, q3, q4⟩
            · simp [hf2] at h; subst h
              exact .inl ⟨rfl, by simp [Instr.findAsking, Sem.run_bind, hrun, Result.andThen, q1]⟩
            · simp [hf2] at h; subst h
              refine .inr ⟨j + 1, p, e2, rfl, by simpa using q1, by simpa using q2, ?_, q4⟩
              simp [Instr.findAsking, Sem.run_bind, hrun, Result.andThen, q3]; omega

theorem findKey2_ok {P : Program} {E : Env} {kt : TypeId} {ks : List LK} {k : List GV} {ck : Value} {w : World} (hd : KdS P kt ks) (hk : KR2 E k ck) (es : List (List GV × Option GV)) (en : List MapEntry) (r : Option Nat) (hl : es.length = en.length)
    (he : ∀ (j : Nat) (p : List GV × Option GV) (e : MapEntry), es[j]? = some p → en[j]? = some e → KR2 E p.1 e.key ∧ VR E p.2 e.val) (h : findM2 ks k es = some r) :
    (r = none ∧ (Instr.findKey kt ck en).run P w = .ok none w) ∨ ∃ j p e, r = some j ∧ es[j]? = some p ∧ en[j]? = some e ∧ (Instr.findKey kt ck en).run P w = .ok (some (j, e.val)) w ∧ p.1 = k := by
  have hd' := hd
  obtain ⟨fs, hu, hs, hf⟩ := hd'
  have e0 : (Instr.findKey kt ck en).run P w = (Instr.findAsking kt ck en 0).run P w := by
    unfold Instr.findKey
    simp only [Sem.run_bind, run_underlying hu, Result.andThen_ok]
    cases en with
    | nil => simp [Instr.findNow, Instr.findAsking]
    | cons e en => simp [Instr.findNow, Instr.sameNow]
  rw [e0]
  rcases find2_ok (w := w) hd hk es en 0 r hl he h with h | ⟨j, p, e, h1, h2, h3, h4, h5⟩
  · exact .inl h
  · exact .inr ⟨j, p, e, h1, h2, h3, by simpa using h4, h5⟩

theorem mapT2_ok {P : Program} {t : TypeId} {ks : List LK} {z : Option GV} (h : mapT2 P t = some (ks, z)) : ∃ key elem, P.underlying t = some (.map key elem) ∧ KdS P key ks ∧ ∃ i zv, P.info? elem = some i ∧ i.zero = some zv ∧ ∀ E, VR E z zv := by
  unfold mapT2 at h
  split at h
  · rename_i key elem hu
    split at h
    · rename_i kk' z' h1 h2
      cases h
      exact ⟨key, elem, hu, keyS_ok h1, elZ_ok h2⟩
    · cases h
  · cases h

section
variable {w w' : World} {H : List Blk} {L : Nat → Lc}
theorem HR.newMap2 (hr : HR w H L) (hg : Grows w w') (b : Nat) (hlt : w.heap.size ≤ b) (hb : w'.heap[b]? = some (.map #[] 0)) (ws : List Nat) :
    ∃ L', HR w' (H ++ [.map2 []]) L' ∧ Ext (envOf w H L) (envOf w' (H ++ [.map2 []]) L') ∧ Same w w' H L L' ws ∧ AR (envOf w' (H ++ [.map2 []]) L') (.mp H.length) (.map (some b)) := by
  obtain ⟨k1, k2, k3⟩ := hr.add_same hg (.map2 []) ⟨some b, 0, 0, true⟩ (by simpa using hlt) (fun he => by
    refine ⟨?_, b, #[], 0, ?_, hb, rfl, fun j p e hj _ => by simp at hj⟩
    · show ((updL L H.length _) H.length).st = true; rw [updL_self]
    · show ((updL L H.length _) H.length).blk = some b; rw [updL_self]) ws
  refine ⟨_, k1, k2, k3, .mp (by simp [envOf]) ?_ ?_⟩
  · show ((updL L H.length _) H.length).st = true; rw [updL_self]
  · show ((updL L H.length _) H.length).blk = some b; rw [updL_self]
end

section
variable {P : Program} {h : List Blk} {s s' : St} {a : Act} {w : World} {L : Nat → Lc} {v : AV} {ws : List Nat} {drw : Option Nat} {nb : Nat}

theorem i_mkmap2 (hr : HR w (full h s) L) {o : Oper} {t : TypeId} (ho : o.op = .makeMap t none) (he : evI h nb s .mkmap2 = some (v, s', ws)) :
    Im w (full h s) L ((execOp a.eval o).run P w) v (full h s') ws ∧ s'.t = s.t := by
  simp [evI] at he
  obtain ⟨rfl, rfl, rfl⟩ := he
  obtain ⟨L', h1, h2, h3, h4⟩ := hr.newMap2 (Grows.push w (.map #[] 0)) w.heap.size (Nat.le_refl _) (heap_push _ _) []
  rw [full_length] at h4
  refine ⟨?_, rfl⟩
  rw [full_push]
  refine im_value (cv := .map (some w.heap.size)) ?_ h4 h1 h2 h3
  simp only [execOp, ho, Instr.makeMap, Option.map_none]
  rfl

theorem map2_at (hr : HR w (full h s) L) {id : Nat} {es : List (List GV × Option GV)} {c : Value} (hB : getB h s id = some (.map2 es)) (hx : AR (envOf w (full h s) L) (.mp id) c) :
    ∃ b en ck, c = .map (some b) ∧ (L id).blk = some b ∧ (L id).st = true ∧ w.heap[b]? = some (.map en ck) ∧ EntriesIn2 (envOf w (full h s) L) es en := by
  have hk := hr.blk id _ (by rw [getB_full]; exact hB)
  obtain ⟨h0, b, en, ck, h1, h2, h3⟩ := hk
  cases hx with
  | @mp _ b' hid hgen hb =>
    have e : b = b' := by rw [hb] at h1; exact (Option.some.inj h1).symm
    subst e
    exact ⟨b, en, ck, rfl, hb, hgen, h2, h3⟩

theorem grounds_map : ∀ {cs : List AV} {gs : List GV}, grounds cs = some gs → cs = gs.map .g
  | [], gs, h => by simp [grounds] at h; subst h; rfl
  | c :: cs, gs, h => by
    cases c <;> simp only [grounds] at h <;> try (cases h; done)
    split at h
    · rename_i g vs hv
      cases h
      rw [grounds_map hv]; rfl
    · cases h

theorem aggG_ok (ht : TR (envOf w (full h s) L) a s.t) {k : Operand} {K : Opd} {kv : List GV} (hk : cOpd k = some K) (hv : (val s K).bind aggG = some kv) : KR2 (envOf w (full h s) L) kv (a.eval k) := by
  cases hq : val s K with
  | none => simp [hq] at hv
  | some x =>
    simp only [hq, Option.bind_some] at hv
    cases x <;> simp only [aggG] at hv <;> try (cases hv; done)
    rename_i cs
    have := cOpd_ok ht hk hq
    unfold KR2
    rw [← grounds_map hv]
    exact this

theorem run_lookup2 {t key elem : TypeId} {r : Nat} {en : Array MapEntry} {ck : Nat} {kv z : Value} {res : Option (Nat × Value)} {i : TypeInfo} (cm : Bool) (ht : P.underlying t = some (.map key elem)) (hc : ∀ e, (Instr.checkKey e 10000 key kv).run P w = .ok () w)
    (hb : w.heap[r]? = some (.map en ck)) (hf : (Instr.findKey key kv en.toList).run P w = .ok res w) (hi : P.info? elem = some i) (hz : i.zero = some z) :
    (Instr.lookup t (.map (some r)) kv cm).run P w = .ok (if cm = true then .tuple #[(res.map (·.2)).getD z, .bool res.isSome] else (res.map (·.2)).getD z) w := by
  unfold Instr.lookup
  simp only [Sem.run_bind, run_underlying ht, Result.andThen, MapKept.run_getObj_map hb, Sem.run_pure, hc, hf]
  cases res with
  | none => simp [zeroValue, typeInfo, hi, hz]
  | some p => simp

theorem check2_ok {key : TypeId} {ks : List LK} {E : Env} {kv : List GV} {c : Value} (hd : KdS P key ks) (hk : KR2 E kv c) (hl : kv.length = ks.length) (e : Bool) : (Instr.checkKey e 10000 key c).run P w = .ok () w := by
  obtain ⟨xs, x1, x2, _⟩ := AR.crel hk
  rw [x1]
  exact run_checkKeyS hd (by have := x2.1; simp at this; omega) e 9998

theorem i_mget2 (hr : HR w (full h s) L) (ht : TR (envOf w (full h s) L) a s.t) {o : Oper} {t : TypeId} {x k : Operand} {X K : Opd} {cm : Bool} {ks : List LK} {z : Option GV} (ho : o.op = .lookup t x k cm) (hm : mapT2 P t = some (ks, z)) (hx : cOpd x = some X) (hk : cOpd k = some K)
    (he : evI h nb s (.mget2 cm ks z X K) = some (v, s', ws)) : Im w (full h s) L ((execOp a.eval o).run P w) v (full h s') ws ∧ s'.t = s.t := by
  obtain ⟨key, elem, u1, hd, i, zv, hi, hz, hzr⟩ := mapT2_ok hm
  simp only [evI] at he
  split at he
  · rename_i id kv hX hK
    split at he
    · rename_i es hB
      split at he
      · rename_i r hg
        cases he
        obtain ⟨b, en, ck, e1, e2, e3, e4, e5⟩ := map2_at hr hB (cOpd_ok ht hx hX)
        have hkr := aggG_ok ht hk hK
        unfold mgetV2 at hg
        split at hg
        case isFalse => cases hg
        rename_i hkl
        have hck := fun e => check2_ok (P := P) (w := w) hd hkr hkl e
        cases hf : findM2 ks kv es with
        | none => simp [hf] at hg
        | some fr =>
          simp only [hf] at hg
          have hfo := findKey2_ok (w := w) hd hkr es en.toList fr (by simpa using e5.1) (fun j p e h1 h2 => e5.2 j p e h1 (by simpa using h2)) hf
          have fin : ∀ (res : Option (Nat × Value)) (g : Option GV), (Instr.findKey key (a.eval k) en.toList).run P w = .ok res w → VR (envOf w (full h s) L) g ((res.map (·.2)).getD zv) → res.isSome = fr.isSome →
              v = (if cm = true then AV.tup [mvV g, .g (.bool fr.isSome)] else mvV g) → Im w (full h s) L ((execOp a.eval o).run P w) v (full h s) [] ∧ s.t = s.t := by
            intro res g q1 q2 q3 q4
            refine ⟨Im.same hr (cv := if cm = true then .tuple #[(res.map (·.2)).getD zv, .bool res.isSome] else (res.map (·.2)).getD zv) ?_ ?_, rfl⟩
            · simp only [execOp, ho, e1]
              rw [Sem.run_bind, run_lookup2 cm u1 hck e4 q1 hi hz]
              rfl
            · rw [q4]
              cases cm
              · simp only [Bool.false_eq_true, if_false]; exact q2.av
              · simp only [if_true]
                refine .tup rfl (fun j x y hx hy => ?_)
                match j with
                | 0 => simp at hx hy; subst hx hy; exact q2.av
                | 1 => simp at hx hy; subst hx hy; rw [q3]; exact .g (.bool _)
                | j + 2 => simp at hx
          rcases hfo with ⟨rfl, q1⟩ | ⟨j, p, e, rfl, q1, q2, q3, q4⟩
          · simp only [Option.some.injEq] at hg
            exact fin none z q1 (hzr _) rfl hg.symm
          · simp only [q1, Option.map_some, Option.some.injEq] at hg
            refine fin (some (j, e.val)) p.2 q3 ?_ rfl hg.symm
            exact (e5.2 j p e q1 (by simpa using q2)).2
      · cases he
    · cases he
  · cases he

theorem run_mapUpdate2 {t key elem : TypeId} {r : Nat} {en : Array MapEntry} {ck : Nat} {kv val : Value} (ht : P.underlying t = some (.map key elem)) (hc : ∀ e, (Instr.checkKey e 10000 key kv).run P w = .ok () w)
    (hb : w.heap[r]? = some (.map en ck)) (hf : (Instr.findKey key kv en.toList).run P w = .ok none w) :
    (Instr.mapUpdate t (.map (some r)) kv val).run P w = .ok () { w with heap := w.heap.setIfInBounds r (.map (en.push ⟨kv, val, ck⟩) (ck + 1)) } := by
  unfold Instr.mapUpdate
  simp only [Sem.run_bind, run_underlying ht, Result.andThen, MapKept.run_getObj_map hb, hc, hf, MapKept.run_setObj_map _ hb]

/-- A struct's key that is not there yet. -/
theorem i_mset2 (hr : HR w (full h s) L) (ht : TR (envOf w (full h s) L) a s.t) {o : Oper} {t : TypeId} {x k y : Operand} {X K Y : Opd} {ks : List LK} {z : Option GV} (ho : o.op = .mapUpdate t x k y) (hm : mapT2 P t = some (ks, z)) (hx : cOpd x = some X) (hk : cOpd k = some K) (hy : cOpd y = some Y)
    (he : evI h nb s (.mset2 ks X K Y) = some (v, s', ws)) : Im w (full h s) L ((execOp a.eval o).run P w) v (full h s') ws ∧ s'.t = s.t := by
  obtain ⟨key, elem, u1, hd, i, zv, hi, hz, hzr⟩ := mapT2_ok hm
  simp only [evI] at he
  split at he
  · rename_i id kv vv hX hK hY
    split at he
    · rename_i es g hB hg
      split at he
      · rename_i es' hs
        cases he
        have hxr := cOpd_ok ht hx hX
        obtain ⟨b, en, ck, e1, e2, e3, e4, e5⟩ := map2_at hr hB hxr
        have hkr := aggG_ok ht hk hK
        have hvr := mvG_ok hg (cOpd_ok ht hy hY)
        unfold msetV2 at hs
        split at hs
        case isFalse => cases hs
        rename_i hkl
        have hck := fun e => check2_ok (P := P) (w := w) hd hkr hkl e
        have hid : (full h s)[id]? = some (.map2 es) := by rw [getB_full]; exact hB
        have turn : ∀ (en' : Array MapEntry) (ck' : Nat), (execOp a.eval o).run P w = .ok .skip { w with heap := w.heap.setIfInBounds b (.map en' ck') } → EntriesIn2 (envOf w (full h s) L) es' en' →
            Im w (full h s) L ((execOp a.eval o).run P w) .undef (full h (setB h s id (.map2 es'))) [id] ∧ (setB h s id (.map2 es')).t = s.t := by
          intro en' ck' hq hin
          obtain ⟨hp1, hp2⟩ := MapKept.heap_set (o' := .map en' ck') e4
          have hblt : b < w.heap.size := (Array.getElem?_eq_some_iff.1 e4).1
          obtain ⟨t1, t2⟩ := hr.turn (w' := { w with heap := w.heap.setIfInBounds b (.map en' ck') }) (k' := .map2 es') hid rfl (L id) rfl rfl rfl (by simp) (fun b' _ hne => hp2 b' (fun e => hne (by rw [e]; exact e2))) (.refl _ _) (fun b' hb' => .inl hb')
            (fun hext => by
              refine ⟨?_, b, en', ck', ?_, hp1, hin.mono hext⟩
              · show ((updL L id (L id)) id).st = true; rw [updL_self]; exact e3
              · show ((updL L id (L id)) id).blk = some b; rw [updL_self]; exact e2)
          rw [full_setB, setB_t]
          refine ⟨⟨_, _, _, hq, .inr ⟨rfl, rfl⟩, t1, t2, fun j hj hne => ⟨updL_ne _ _ _ (by simpa using hne), fun ⟨x', hx', lx⟩ b' hb' => hp2 b' (fun e => ?_)⟩⟩, rfl⟩
          subst e
          exact hne (by simp [hr.inj j id b' x' _ hx' hid lx rfl hb' e2])
        cases hf : findM2 ks kv es with
        | none => simp [hf] at hs
        | some fr =>
          have hfo := findKey2_ok (w := w) hd hkr es en.toList fr (by simpa using e5.1) (fun j p e h1 h2 => e5.2 j p e h1 (by simpa using h2)) hf
          rcases hfo with ⟨rfl, q1⟩ | ⟨j, p, e, rfl, q1, q2, q3, q4⟩
          · simp [hf] at hs
            subst hs
            refine turn (en.push ⟨a.eval k, a.eval y, ck⟩) (ck + 1) ?_ ⟨by simp [e5.1], fun j p e h1 h2 => ?_⟩
            · simp only [execOp, ho, e1]
              rw [Sem.run_bind, run_mapUpdate2 (P := P) (kv := a.eval k) (val := a.eval y) u1 hck e4 q1]
              rfl
            by_cases hj : j < es.length
            · rw [List.getElem?_append_left hj] at h1
              rw [Array.getElem?_push, if_neg (by have := e5.1; omega)] at h2
              exact e5.2 j p e h1 h2
            · have hjl : j = es.length := by
                have := (List.getElem?_eq_some_iff.1 h1).1
                simp at this; omega
              subst hjl
              simp at h1
              rw [Array.getElem?_push, if_pos e5.1] at h2
              cases h2
              subst h1
              exact ⟨hkr, hvr⟩
          · simp [hf] at hs
      · cases he
    · cases he
  · cases he
end
end Go.AM
end
section
set_option linter.unusedSimpArgs false
set_option linter.unusedVariables false
namespace Go.AM
open Go

section
variable {P : Program} {h : List Blk} {s s' : St} {a : Act} {w : World} {L : Nat → Lc} {v : AV} {ws : List Nat} {drw : Option Nat} {nb : Nat}

theorem rowT_ok {e : TypeId} {r : Nat × Nat × List GV} (hr : rowT P e = some r) : szT P e = some r.1 ∧ bytesT P e = some r.2.1 ∧ r.2.2.length = r.1 ∧
    ∃ i z, P.info? e = some i ∧ i.zero = some z ∧ (P.info? e).bind (·.zero) = some z ∧ z.cells.size = r.1 ∧ ∀ (E : Env) (j : Nat) (g : GV) (u : Value), r.2.2[j]? = some g → z.cells[j]? = some u → GR E g u := by
  unfold rowT at hr
  cases h1 : szT P e with
  | none => simp [h1] at hr
  | some n =>
    cases h2 : bytesT P e with
    | none => simp [h1, h2] at hr
    | some b =>
      cases h3 : cZero P e with
      | none => simp [h1, h2, h3] at hr
      | some z =>
        cases h4 : z.mapM gOf with
        | none => simp [h1, h2, h3, h4] at hr
        | some g =>
          simp [h1, h2, h3, h4] at hr
          obtain ⟨hl, rfl⟩ := hr
          obtain ⟨i, zv, e1, e2, _, _⟩ := cZero_ok (E := ⟨default, fun _ => False, fun _ => ⟨none, 0, 0, false⟩, 0, fun _ => False⟩) h3
          obtain ⟨m1, m2⟩ := mapM_get h4
          refine ⟨rfl, rfl, hl, i, zv, e1, e2, by simp [e1, e2], ?_, fun E j gg u hg hu => ?_⟩
          · obtain ⟨_, _, e1', e2', c1, _⟩ := cZero_ok (E := ⟨default, fun _ => False, fun _ => ⟨none, 0, 0, false⟩, 0, fun _ => False⟩) h3
            rw [e1] at e1'; cases e1'; rw [e2] at e2'; cases e2'
            rw [← c1.1, ← m1]; exact hl
          · obtain ⟨_, _, e1', e2', c1, _⟩ := cZero_ok (E := E) h3
            rw [e1] at e1'; cases e1'; rw [e2] at e2'; cases e2'
            have hlt : j < z.length := by rw [c1.1]; exact (Array.getElem?_eq_some_iff.1 hu).1
            have hz := List.getElem?_eq_getElem hlt
            have := m2 j _ gg hz hg
            have har := c1.2 j _ u hz hu
            cases hq : z[j] with
            | g x => rw [hq] at this har; simp [gOf] at this; subst this; exact har.inv_g
            | _ => rw [hq] at this; simp [gOf] at this

/-- Zero elements, and their cells. -/
theorem zero_new {E : Env} {z : Value} {g : List GV} {sz : Nat} (hz : z.cells.size = sz) (hg : g.length = sz) (hr : ∀ (j : Nat) (x : GV) (u : Value), g[j]? = some x → z.cells[j]? = some u → GR E x u) (n : Nat) :
    NewIs E sz (List.replicate n g) (Builtin.zeroCells z.cells n).toList := by
  refine ⟨by simp [size_zeroCells, hz], fun i el hi => ?_⟩
  have hel : el = g ∧ i < n := by
    rw [List.getElem?_replicate] at hi
    split at hi
    · cases hi; exact ⟨rfl, by assumption⟩
    · cases hi
  obtain ⟨rfl, hin⟩ := hel
  refine ⟨hg, fun j x hj => ?_⟩
  have hjs : j < sz := by rw [← hg]; exact (List.getElem?_eq_some_iff.1 hj).1
  have hjz : j < z.cells.size := by omega
  refine ⟨z.cells[j], ?_, hr j x _ hj (Array.getElem?_eq_getElem hjz)⟩
  have hk : i * sz + j < n * z.cells.size := by rw [hz]; exact mul_lt_row hin hjs
  have hmod : (i * sz + j) % z.cells.size = j := by rw [hz, Nat.mul_comm, Nat.mul_add_mod, Nat.mod_eq_of_lt hjs]
  unfold Builtin.zeroCells
  simp only [Array.toList_map, Array.toList_range, List.getElem?_map, List.getElem?_range hk, Option.map_some, hmod]
  congr 1
  exact getElem!_pos z.cells j hjz

theorem set_same {α : Type} {l : List α} {i : Nat} {x : α} (h : l[i]? = some x) : l.set i x = l := by
  apply List.ext_getElem?
  intro j
  by_cases e : i = j
  · subst e; rw [List.getElem?_set_self (List.getElem?_eq_some_iff.1 h).1, h]
  · rw [List.getElem?_set_ne e]

theorem app_args {cargs : Array Operand} {X Y : Opd} (hxs : cOpds cargs.toList = some [X, Y]) : ∃ x y, cargs.map a.eval = #[a.eval x, a.eval y] ∧ cOpd x = some X ∧ cOpd y = some Y := by
  obtain ⟨x, y, hl, hx, hy⟩ := cOpds_two hxs
  refine ⟨x, y, ?_, hx, hy⟩
  have : cargs = #[x, y] := by
    apply Array.ext'; simpa using hl
  subst this; simp

theorem size_two {cts : Array TypeId} (h : cts.size = 2) : cts = #[cts.getD 0 0, cts.getD 1 0] := by
  match cts, h with
  | ⟨[x, y]⟩, _ => rfl

theorem bytes_new {E : Env} (b : List UInt8) : NewIs E 1 (bytesG b) (b.map fun c => Value.int .u8 c.toNat) := by
  refine ⟨by simp [bytesG], fun i el hi => ?_⟩
  simp [bytesG] at hi
  obtain ⟨c, hc, rfl⟩ := hi
  refine ⟨rfl, fun j g hj => ?_⟩
  match j with
  | 0 => simp at hj; subst hj; exact ⟨.int .u8 c.toNat, by simp [hc], .int _ _⟩
  | j + 1 => simp at hj

theorem i_builtin (hr : HR w (full h s) L) (ht : TR (envOf w (full h s) L) a s.t) {dst : Option Tmp} {ty : TypeId} {pos : String} {after : Array Edge} {gd : Option (Nat × Bool)} {b : Builtin} {cargs : Array Operand} {cts : Array TypeId} {xs : List Opd} {ao : AOp} (hxs : cOpds cargs.toList = some xs) (hc : cBuiltin P b cts xs = some ao)
    (he : evI h nb s ao = some (v, s', ws)) : Im w (full h s) L ((execOp a.eval ⟨dst, .call ⟨.builtin b, cargs, cts⟩, ty, pos, after, gd⟩).run P w) v (full h s') ws ∧ s'.t = s.t := by
  have hrun : ∀ {cv : Value} {w' : World}, (builtin b cts ty (cargs.map fun | .const _ => true | _ => false) (cargs.map a.eval)).run P w = .ok (.value cv) w' → (execOp a.eval ⟨dst, .call ⟨.builtin b, cargs, cts⟩, ty, pos, after, gd⟩).run P w = .ok (.value cv) w' := by
    intro cv w' h1
    simp only [execOp, resolve, pure_bind, invoke]
    exact h1
  -- append
  have app : ∀ {e t u : TypeId} {r : Nat × Nat × List GV} {X Y : Opd} {x y : Operand} {vx : AV} {ys : List (List GV)} {news : List Value}, b = .append → cts = #[t, u] → cargs.map a.eval = #[a.eval x, a.eval y] → rowT P e = some r →
      AR (envOf w (full h s) L) vx (a.eval x) → NewIs (envOf w (full h s) L) r.1 ys news →
      (∀ (A : Option Addr) (sLen sCap : Nat) (w2 : World), sLen + ys.length ≤ sCap → (match A with | none => w2 = w | some a => (storeCells (a.add (sLen * r.1)) news).run P w = .ok () w2) →
        (Builtin.append_ #[t, u] ty #[.slice A sLen sCap, a.eval y]).run P w = .ok (.slice A (sLen + ys.length) sCap) w2) →
      (∀ (z : Value), (P.info? e).bind (·.zero) = some z → z.cells.size = r.1 → ∀ (A : Option Addr) (sLen sCap : Nat) (olds : List Value), ¬ sLen + ys.length ≤ sCap → sLen + ys.length ≤ 9223372036854775807 → (sLen + ys.length) * r.2.1 ≤ 140737488355328 →
        (∀ w1 : World, w1.heap = w.heap → (Builtin.firstCells r.1 sLen (.slice A sLen sCap)).run P w1 = .ok olds.toArray w1) →
        (Builtin.append_ #[t, u] ty #[.slice A sLen sCap, a.eval y]).run P w = .ok (.slice (some ⟨w.heap.size, 0, none⟩) (sLen + ys.length) (grownCap w (sLen + ys.length) sCap e)) (grownW w (sLen + ys.length) sCap e z olds news)) →
      appV h s r.1 r.2.1 vx ys = some (v, s', ws) →
      Im w (full h s) L ((execOp a.eval ⟨dst, .call ⟨.builtin b, cargs, cts⟩, ty, pos, after, gd⟩).run P w) v (full h s') ws ∧ s'.t = s.t := by
    intro e t u r X Y x y vx ys news hb hct hca hrow hx hy h1 h2 hap
    subst hb
    obtain ⟨_, _, _, i, z, _, _, hz, hzs, _⟩ := rowT_ok hrow
    obtain ⟨⟨cv, w', L', k1, k2, k3, k4, k5⟩, kt⟩ := appV_ok (P := P) (t := t) (u := u) (ty := ty) (e := e) hr hzs hx hy h1 (h2 z hz hzs) hap
    refine ⟨⟨_, w', L', hrun (cv := cv) (w' := w') ?_, .inl ⟨cv, rfl, k2⟩, k3, k4, k5⟩, kt⟩
    simp only [builtin]
    rw [Sem.run_bind, hct, hca, k1]
    rfl
  have appT : ∀ {e t u : TypeId} {r : Nat × Nat × List GV} {X Y : Opd} {x y : Operand} {id g off len : Nat} {ys : List (List GV)} {news : List Value}, b = .append → cts = #[t, u] → cargs.map a.eval = #[a.eval x, a.eval y] → rowT P e = some r →
      AR (envOf w (full h s) L) (.ms id g r.1 off len) (a.eval x) → NewIs (envOf w (full h s) L) r.1 ys news →
      (∀ (A : Option Addr) (sLen sCap : Nat) (w2 : World), sLen + ys.length ≤ sCap → (match A with | none => w2 = w | some a => (storeCells (a.add (sLen * r.1)) news).run P w = .ok () w2) →
        (Builtin.append_ #[t, u] ty #[.slice A sLen sCap, a.eval y]).run P w = .ok (.slice A (sLen + ys.length) sCap) w2) →
      (∀ (z : Value), (P.info? e).bind (·.zero) = some z → z.cells.size = r.1 → ∀ (A : Option Addr) (sLen sCap : Nat) (olds : List Value), ¬ sLen + ys.length ≤ sCap → sLen + ys.length ≤ 9223372036854775807 → (sLen + ys.length) * r.2.1 ≤ 140737488355328 →
        (∀ w1 : World, w1.heap = w.heap → (Builtin.firstCells r.1 sLen (.slice A sLen sCap)).run P w1 = .ok olds.toArray w1) →
        (Builtin.append_ #[t, u] ty #[.slice A sLen sCap, a.eval y]).run P w = .ok (.slice (some ⟨w.heap.size, 0, none⟩) (sLen + ys.length) (grownCap w (sLen + ys.length) sCap e)) (grownW w (sLen + ys.length) sCap e z olds news)) →
      appTV e h s r.1 r.2.1 id g off len ys = some (v, s', ws) →
      Im w (full h s) L ((execOp a.eval ⟨dst, .call ⟨.builtin b, cargs, cts⟩, ty, pos, after, gd⟩).run P w) v (full h s') ws ∧ s'.t = s.t := by
    intro e t u r X Y x y id g off len ys news hb hct hca hrow hx hy h1 h2 hap
    subst hb
    obtain ⟨_, _, _, i, z, _, _, hz, hzs, _⟩ := rowT_ok hrow
    obtain ⟨⟨cv, w', L', k1, k2, k3, k4, k5⟩, kt⟩ := appTV_ok (P := P) (t := t) (u := u) (ty := ty) (e := e) hr hzs hx hy h1 (h2 z hz hzs) hap
    refine ⟨⟨_, w', L', hrun (cv := cv) (w' := w') ?_, .inl ⟨cv, rfl, k2⟩, k3, k4, k5⟩, kt⟩
    simp only [builtin]
    rw [Sem.run_bind, hct, hca, k1]
    rfl
  unfold cBuiltin at hc
  cases b <;> (try (cases hc; done)) <;> dsimp only at hc
  case len => split at hc <;> (try (cases hc; done)) <;> (split at hc <;> (try (cases hc; done)) <;> (cases hc; simp [evI] at he))
  case cap => split at hc <;> (try (cases hc; done)) <;> (split at hc <;> (try (cases hc; done)) <;> (cases hc; simp [evI] at he))
  case max => split at hc <;> (try (cases hc; done)) <;> (cases hc; simp [evI] at he)
  case min => split at hc <;> (try (cases hc; done)) <;> (cases hc; simp [evI] at he)
  case append =>
    split at hc
    · rename_i X Y e e2 hu1 hu2
      split at hc
      · rename_i hsz
        cases hrow : rowT P e with
        | none => simp [hrow] at hc
        | some r =>
          simp [hrow] at hc
          subst hc
          obtain ⟨x, y, hca, hx, hy⟩ := app_args (a := a) hxs
          simp only [evI] at he
          split at he
          · rename_i vx vy hX hY
            cases hvw : viewN h s r.1 vy with
            | none => simp [hvw] at he
            | some ys =>
              simp only [hvw] at he
              obtain ⟨q1, q2, _⟩ := rowT_ok hrow
              obtain ⟨A, cap, news, e1, e2', hns, hf⟩ := viewN_ok (P := P) hr hvw (cOpd_ok ht hy hY)
              have hsrc : Src P (cts.getD 1 0) (a.eval y) r.1 ys.length news w := ⟨⟨_, hu2, .inl ⟨_, rfl⟩⟩, fun w1 => by rw [e1]; rfl, hf⟩
              exact app (X := X) (Y := Y) rfl (size_two hsz) hca hrow (cOpd_ok ht hx hX) hns (fun A sLen sCap w2 h1 h2 => run_app_room hu1 q1 q2 A sLen sCap _ _ news hsrc h1 w2 h2)
                (fun z hz hzs A sLen sCap olds h1 h2 h3 h4 => run_app_grow hu1 q1 q2 hz A sLen sCap _ _ olds news hsrc h1 h2 h3 h4) he
          · cases he
      · cases hc
    · rename_i X Y e hu1 hu2
      split at hc
      · rename_i hsz
        cases hrow : rowT P e with
        | none => simp [hrow] at hc
        | some r =>
          simp [hrow] at hc
          obtain ⟨⟨hr1, hr2⟩, rfl⟩ := hc
          obtain ⟨x, y, hca, hx, hy⟩ := app_args (a := a) hxs
          simp only [evI] at he
          split at he
          · rename_i vx bs hX hY
            obtain ⟨q1, q2, _⟩ := rowT_ok hrow
            have hye := (cOpd_ok ht hy hY).inv_g.inv_str
            have hlen : (bytesG bs).length = bs.length := by simp [bytesG]
            have hsrc : Src P (cts.getD 1 0) (a.eval y) r.1 (bytesG bs).length (bs.map fun c => Value.int .u8 c.toNat) w := by
              refine ⟨⟨_, hu2, .inr rfl⟩, fun w1 => by rw [hye, hlen]; simp [Builtin.lenOf]; rfl, fun w1 _ => ?_⟩
              rw [hye, hlen]
              simp only [Builtin.firstCells, Sem.run_pure]
              congr 1
              rw [ByteArray.extract_mk]
              simp
            have hns : NewIs (envOf w (full h s) L) r.1 (bytesG bs) (bs.map fun c => Value.int .u8 c.toNat) := by rw [hr1]; exact bytes_new bs
            have old : ∀ vx, val s X = some vx → appV h s 1 1 vx (bytesG bs) = some (v, s', ws) → Im w (full h s) L ((execOp a.eval ⟨dst, .call ⟨.builtin .append, cargs, cts⟩, ty, pos, after, gd⟩).run P w) v (full h s') ws ∧ s'.t = s.t := by
              intro vx hX he
              have he : appV h s r.1 r.2.1 vx (bytesG bs) = some (v, s', ws) := by rw [hr1, hr2]; exact he
              exact app (X := X) (Y := Y) rfl (size_two hsz) hca hrow (cOpd_ok ht hx hX) hns (fun A sLen sCap w2 h1 h2 => run_app_room hu1 q1 q2 A sLen sCap _ _ _ hsrc h1 w2 h2)
                (fun z hz hzs A sLen sCap olds h1 h2 h3 h4 => run_app_grow hu1 q1 q2 hz A sLen sCap _ _ olds _ hsrc h1 h2 h3 h4) he
            split at he
            · rename_i id g sz off len
              split at he
              · split at he
                · rename_i hsz1
                  have he : appTV e h s r.1 r.2.1 id g off len (bytesG bs) = some (v, s', ws) := by rw [hr1, hr2]; exact he
                  exact appT (X := X) (Y := Y) rfl (size_two hsz) hca hrow (by rw [hr1, ← hsz1]; exact cOpd_ok ht hx hX) hns (fun A sLen sCap w2 h1 h2 => run_app_room hu1 q1 q2 A sLen sCap _ _ _ hsrc h1 w2 h2)
                    (fun z hz hzs A sLen sCap olds h1 h2 h3 h4 => run_app_grow hu1 q1 q2 hz A sLen sCap _ _ olds _ hsrc h1 h2 h3 h4) he
                · cases he
              · exact old _ hX he
            · exact old _ hX he
          · cases he
      · cases hc
    · rename_i X Y e k hu1 hu2
      split at hc
      · rename_i hsz
        cases hrow : rowT P e with
        | none => simp [hrow] at hc
        | some r =>
          simp [hrow] at hc
          subst hc
          obtain ⟨x, y, hca, hx, hy⟩ := app_args (a := a) hxs
          simp only [evI] at he
          split at he
          · rename_i vx n hX hY
            split at he
            · rename_i hcond
              obtain ⟨n0, n1, n2⟩ := hcond
              obtain ⟨q1, q2, q3, i, z, _, _, hz, hzs, hzr⟩ := rowT_ok hrow
              have hye := (cOpd_ok ht hy hY).inv_g.inv_int
              have hn : ((n.toNat : Nat) : Int) = n := Int.toNat_of_nonneg n0
              have hye' : a.eval y = .int .i64 n.toNat := by rw [hye, hn]
              have hl : (List.replicate n.toNat r.2.2).length = n.toNat := by simp
              have b1 : n.toNat ≤ 281474976710656 := by omega
              have b2 : n.toNat * r.2.1 ≤ 281474976710656 := by
                have : ((n.toNat * r.2.1 : Nat) : Int) = n * r.2.1 := by rw [Int.natCast_mul, hn]
                omega
              refine app (X := X) (Y := Y) (news := (Builtin.zeroCells z.cells n.toNat).toList) rfl (size_two hsz) hca hrow (cOpd_ok ht hx hX) (zero_new hzs q3 (hzr _) n.toNat) (fun A sLen sCap w2 h1 h2 => ?_) (fun z' hz' hzs' A sLen sCap olds h1 h2 h3 h4 => ?_) he
              · rw [hl] at h1 ⊢
                rw [hye']
                exact run_appZ_room hu1 q1 q2 A sLen sCap n.toNat (.int .i64 n.toNat) [] hz hzs hu2 b1 b2 h1 w2 h2
              · rw [hz] at hz'; cases hz'
                rw [hl] at h1 h2 h3 ⊢
                rw [hye']
                exact run_appZ_grow hu1 q1 q2 hz hzs A sLen sCap n.toNat olds hu2 b1 b2 h1 h2 h3 h4
            · cases he
          · cases he
      · cases hc
    · cases hc
  case unsafeSliceData =>
    split at hc
    · rename_i X
      cases hc
      obtain ⟨x, hl, hx⟩ := cOpds_one hxs
      have hca : cargs.map a.eval = #[a.eval x] := by
        have : cargs = #[x] := by apply Array.ext'; simpa using hl
        subst this; simp
      simp only [evI] at he
      split at he
      · rename_i id g sz off len hX
        have hq := cOpd_ok ht hx hX
        split at he
        · rename_i hcur
          obtain ⟨k1, k2⟩ := run_sdata (P := P) hr hq hcur cts ty
          split at he
          · rename_i hg
            cases he
            refine ⟨Im.same hr (cv := .pointer none) (hrun ?_) (.g .nptr), rfl⟩
            simp only [builtin]
            rw [Sem.run_bind, hca, k1 hg]
            rfl
          · split at he
            · rename_i hl
              cases he
              obtain ⟨cv, k3, k4⟩ := k2 hl
              refine ⟨Im.same hr (cv := cv) (hrun ?_) k4, rfl⟩
              simp only [builtin]
              rw [Sem.run_bind, hca, k3]
              rfl
            · cases he
        · cases he
      · cases he
    · cases hc
  case unsafeString =>
    split at hc
    · rename_i X Y e hu1
      split at hc
      · rename_i hsz
        cases hc
        obtain ⟨x, y, hca, hx, hy⟩ := app_args (a := a) hxs
        simp only [evI] at he
        split at he
        · rename_i n hX hY
          split at he
          · rename_i hn
            subst hn
            cases he
            have e1 := (cOpd_ok ht hx hX).inv_g
            have e2 := (cOpd_ok ht hy hY).inv_g.inv_int
            refine ⟨Im.same hr (cv := .string .empty) (hrun ?_) (.g (.str [])), rfl⟩
            simp only [builtin]
            rw [Sem.run_bind, hca, size_two hsz.1, e2]
            cases e1' : a.eval x <;> rw [e1'] at e1 <;> cases e1
            rw [Lib.run_unsafeString_none]
            rfl
          · cases he
        · rename_i id g sz i off n hX hY
          split at he
          · rename_i T sz2 g' els hB
            split at he
            · rename_i hcnd
              obtain ⟨rfl, rfl, rfl, rfl, n0, n1, n2, hTe⟩ := hcnd
              replace hTe := hTe.symm
              subst hTe
              split at he
              · rename_i bs hbs
                cases he
                have hnn : ((n.toNat : Nat) : Int) = n := Int.toNat_of_nonneg (by omega)
                have e2 := (cOpd_ok ht hy hY).inv_g.inv_int
                obtain ⟨w', L', k1, k2, k3, k4⟩ := run_ustr_row (P := P) hr (cOpd_ok ht hx hX) hB (by omega) (by omega) (by omega) hbs (pt := cts.getD 0 0) (it := cts.getD 1 0) (ty := ty) hu1 hsz.2
                refine ⟨?_, setB_t _ _ _ _⟩
                rw [full_setB]
                refine ⟨_, w', L', hrun ?_, .inl ⟨_, rfl, .g (.str bs)⟩, k2, k3, k4⟩
                simp only [builtin]
                rw [Sem.run_bind, hca, size_two hsz.1, e2, ← hnn, k1]
                rfl
              · cases he
            · cases he
          · cases he
        · cases he
      · cases hc
    · cases hc
  case clear =>
    split at hc
    · rename_i X e hu1
      split at hc
      · rename_i hsz
        cases hrow : rowT P e with
        | none => simp [hrow] at hc
        | some r =>
          simp [hrow] at hc
          subst hc
          obtain ⟨x, hl, hx⟩ := cOpds_one hxs
          have hca : cargs.map a.eval = #[a.eval x] := by
            have : cargs = #[x] := by apply Array.ext'; simpa using hl
            subst this; simp
          have hct : cts = #[cts.getD 0 0] := by
            match cts, hsz with
            | ⟨[y]⟩, _ => rfl
          obtain ⟨q1, q2, q3, i, z, hi, hz0, hz, hzs, hzr⟩ := rowT_ok hrow
          simp only [evI] at he
          split at he
          · rename_i hX
            simp at he
            obtain ⟨rfl, rfl, rfl⟩ := he
            have hq := (cOpd_ok ht hx hX).inv_g
            generalize hcx : a.eval x = cx at hq
            cases hq
            refine ⟨im_value (cv := .tuple #[]) (w' := w) (L' := L) (hrun ?_) (.tup (by simp) (by simp)) hr (Ext.refl _) (fun _ _ _ => ⟨rfl, fun _ _ _ => rfl⟩), rfl⟩
            simp only [builtin]
            rw [Sem.run_bind, hca, hcx]
            unfold Builtin.clear_
            rw [hct]
            generalize cts.getD 0 0 = t0 at hu1 ⊢
            simp [run_underlying hu1]
          · rename_i id g sz off len hX
            cases hB : getB h s id with
            | none => simp [hB] at he
            | some k =>
              cases k <;> simp [hB] at he
              rename_i sz' g' els
              obtain ⟨⟨rfl, rfl, hszr, hle⟩, rfl, rfl, rfl⟩ := he
              refine ⟨?_, setB_t _ _ _ _⟩
              have hcur : cur h s id g = true := by simp [cur, hB]
              have hq := cOpd_ok ht hx hX
              obtain ⟨hid, hg0, hgen, hm⟩ := ms_ok hr hcur hq
              have hget : (full h s)[id]? = some (.rows sz g els) := by rw [getB_full]; exact hB
              obtain ⟨hg1, ⟨hg2, hg3⟩, hrw⟩ := hr.blk id _ hget
              rw [show (envOf w (full h s) L).L id = L id from rfl] at hrw
              have hnews := zero_new (E := envOf w (full h s) L) (n := len) hzs q3 (hzr _)
              have hnl : (Builtin.zeroCells z.cells len).toList.length = len * sz := by rw [hnews.1]; simp [← q3, hszr]
              cases hbk : (L id).blk with
              | none =>
                rw [hbk] at hrw
                obtain ⟨rfl, hcap0⟩ := hrw
                unfold MsOk at hm
                rw [hbk] at hm
                obtain ⟨hcx, rfl, rfl⟩ := hm
                rw [full_setB]
                have hset : (full h s).set id (Blk.rows sz g (List.take 0 [] ++ (List.replicate 0 r.2.2 ++ List.drop (0 + 0) []))) = full h s := by
                  simp
                  exact set_same hget
                rw [hset]
                refine im_value (cv := .tuple #[]) (w' := w) (L' := L) (hrun ?_) (.tup (by simp) (by simp)) hr (Ext.refl _) (fun _ _ _ => ⟨rfl, fun _ _ _ => rfl⟩)
                simp only [builtin]
                rw [Sem.run_bind, hca, hcx]
                unfold Builtin.clear_
                rw [hct]
                generalize cts.getD 0 0 = t0 at hu1 ⊢
                simp [run_underlying hu1]
              | some b =>
                rw [hbk] at hrw
                obtain ⟨T, C, hb2, hC1, hC2, hC3⟩ := hrw
                unfold MsOk at hm
                rw [hbk] at hm
                obtain ⟨A, c, hcx, hoc, hlc, hA⟩ := hm
                have hC1' : C.size = (L id).cap * sz := hC1
                have hC2' : els.length ≤ (L id).cap := hC2
                by_cases hl0 : len = 0
                · subst hl0
                  rw [full_setB]
                  have hset : (full h s).set id (Blk.rows sz g (List.take off els ++ (List.replicate 0 r.2.2 ++ List.drop (off + 0) els))) = full h s := by
                    simp
                    exact set_same hget
                  rw [hset]
                  refine im_value (cv := .tuple #[]) (w' := w) (L' := L) (hrun ?_) (.tup (by simp) (by simp)) hr (Ext.refl _) (fun _ _ _ => ⟨rfl, fun _ _ _ => rfl⟩)
                  simp only [builtin]
                  rw [Sem.run_bind, hca, hcx]
                  unfold Builtin.clear_
                  rw [hct]
                  generalize cts.getD 0 0 = t0 at hu1 ⊢
                  simp [run_underlying hu1]
                · have hA' : A = ⟨b, off * sz, none⟩ := hA.resolve_right (by omega)
                  subst hA'
                  have hbound : off * sz + (Builtin.zeroCells z.cells len).toList.length ≤ C.size := by
                    rw [hnl, hC1', ← Nat.add_mul]; exact Nat.mul_le_mul_right _ (by omega)
                  have hst := run_storeAll (P := P) (w := w) hb2 hbound hnews.one
                  obtain ⟨e1, e2, e3⟩ := hr.storeInto (k' := .rows sz g (els.take off ++ (List.replicate len r.2.2 ++ els.drop (off + len)))) hget rfl hbk hb2 (o := off * sz) (vs := (Builtin.zeroCells z.cells len).toList) hbound (fun C' z1 z2 hext z3 => by
                    have hLid : (envOf (w.setCells b (off * sz) (Builtin.zeroCells z.cells len).toList) ((full h s).set id (.rows sz g (els.take off ++ (List.replicate len r.2.2 ++ els.drop (off + len))))) (updL L id (L id))).L id = L id := by show updL L id (L id) id = _; rw [updL_self]
                    refine ⟨by rw [hLid]; exact hg1, ⟨by rw [hLid]; exact hg2, hg3⟩, ?_⟩
                    rw [hLid, hbk]
                    have hl1 : (els.take off).length = off := by simp; omega
                    have hrl : (List.replicate len r.2.2).length = len := by simp
                    refine ⟨T, C', z3, by rw [z1]; exact hC1, ?_, fun i el hi => ?_⟩
                    · simp; omega
                    · by_cases hin : off ≤ i ∧ i < off + len
                      · rw [List.getElem?_append_right (by omega), hl1, List.getElem?_append_left (by omega)] at hi
                        obtain ⟨p1, p2⟩ := hnews.2 _ el hi
                        have p1' : el.length = sz := by rw [p1, ← q3, hszr]
                        refine ⟨p1', fun j gv hj => ?_⟩
                        obtain ⟨uu, u1, u2⟩ := p2 j gv hj
                        have hjs : j < sz := by rw [← p1']; exact (List.getElem?_eq_some_iff.1 hj).1
                        refine ⟨uu, ?_, u2.mono hext⟩
                        have hlow : off * sz ≤ i * sz := Nat.mul_le_mul_right _ hin.1
                        have hhigh : i * sz + j < (off + len) * sz := mul_lt_row hin.2 hjs
                        rw [Nat.add_mul] at hhigh
                        rw [z2, if_pos (by rw [hnl]; omega), ← u1]
                        congr 1
                        rw [← q3, ← hszr, Nat.sub_mul]; omega
                      · have hcs : els[i]? = some el := by
                          by_cases hlo : i < off
                          · rw [List.getElem?_append_left (by omega), List.getElem?_take_of_lt hlo] at hi; exact hi
                          · rw [List.getElem?_append_right (by omega), hl1, List.getElem?_append_right (by omega), List.getElem?_drop] at hi
                            rw [← hi]; congr 1; omega
                        obtain ⟨p1, p2⟩ := hC3 i el hcs
                        refine ⟨p1, fun j gv hj => ?_⟩
                        obtain ⟨uu, u1, u2⟩ := p2 j gv hj
                        have hjs : j < sz := by rw [← p1]; exact (List.getElem?_eq_some_iff.1 hj).1
                        refine ⟨uu, ?_, u2.mono hext⟩
                        rw [z2, if_neg]
                        · exact u1
                        · rw [hnl]
                          rintro ⟨y1, y2⟩
                          have hio : i < off ∨ off + len ≤ i := by omega
                          rcases hio with hio | hio
                          · have := mul_lt_row hio hjs
                            omega
                          · have := Nat.mul_le_mul_right sz hio
                            rw [Nat.add_mul] at this; omega)
                  rw [full_setB]
                  refine im_value (cv := .tuple #[]) (hrun ?_) (.tup (by simp) (by simp)) e1 e2 e3
                  simp only [builtin]
                  rw [Sem.run_bind, hca, hcx]
                  unfold Builtin.clear_
                  rw [hct]
                  generalize cts.getD 0 0 = t0 at hu1 ⊢
                  obtain ⟨l', rfl⟩ : ∃ l', len = l' + 1 := ⟨len - 1, by omega⟩
                  simp [run_underlying hu1, zeroValue, typeInfo, hi, hz0]
                  rw [hst]; rfl
          · cases he
      · cases hc
    · cases hc

end
end Go.AM
end
section
set_option linter.unusedSimpArgs false
set_option linter.unusedVariables false
namespace Go.AM
open Go

section
variable {P : Program} {h : List Blk} {s s' : St} {a : Act} {w : World} {L : Nat → Lc} {v : AV} {ws : List Nat} {drw : Option Nat} {nb : Nat}

theorem mod_get {z : Array Value} {sz n k : Nat} (hz : z.size = sz) (hk : k < n * sz) : ((Array.range (n * sz)).map (fun i => z[i % z.size]!))[k]? = some (z.getD (k % sz) Go.undef) := by
  obtain ⟨d1, _, d3, _⟩ := div_row hk
  rw [Array.getElem?_map]
  have : (Array.range (n * sz))[k]? = some k := by simp [Array.getElem?_range, hk]
  rw [this]
  simp only [Option.map_some, hz]
  congr 1
  have hlt : k % sz < z.size := by rw [hz]; exact d3
  rw [getElem!_pos z _ hlt, Array.getD_eq_getD_getElem?, Array.getElem?_eq_getElem hlt]; rfl

theorem map_range_zero (f : Nat → Value) : (Array.range 0).map f = #[] := by simp

/-- Zero elements as a row of cells. -/
theorem zero_crel {E : Env} {z : Value} {g : List GV} {sz : Nat} (hz : z.cells.size = sz) (hg : g.length = sz) (hr : ∀ (j : Nat) (x : GV) (u : Value), g[j]? = some x → z.cells[j]? = some u → GR E x u) (n : Nat) :
    CRel E (List.replicate n (g.map AV.g)).flatten ((Array.range (n * sz)).map (fun i => z.cells[i % z.cells.size]!)) ∧
      ∀ (j : Nat) (u : Value), ((Array.range (n * sz)).map (fun i => z.cells[i % z.cells.size]!))[j]? = some u → u.oneCell' = true := by
  have hlen : (List.replicate n (g.map AV.g)).flatten.length = n * sz := by simp [hg]
  have hget : ∀ (k : Nat) (x : AV), (List.replicate n (g.map AV.g)).flatten[k]? = some x → ∃ y, x = .g y ∧ g[k % sz]? = some y := by
    induction n with
    | zero => intro k x hx; simp at hx
    | succ n ih =>
      intro k x hx
      simp only [List.replicate_succ, List.flatten_cons] at hx
      by_cases hk : k < sz
      · rw [List.getElem?_append_left (by simpa [hg] using hk), List.getElem?_map] at hx
        rw [Nat.mod_eq_of_lt hk]
        cases hq : g[k]? with
        | none => simp [hq] at hx
        | some y => simp [hq] at hx; exact ⟨y, hx.symm, rfl⟩
      · rw [List.getElem?_append_right (by simpa [hg] using hk)] at hx
        obtain ⟨y, h1, h2⟩ := ih (by simp [hg]) _ x hx
        simp only [List.length_map, hg] at h2
        refine ⟨y, h1, ?_⟩
        rw [← h2, ← Nat.mod_eq_sub_mod (by omega)]
  have key : ∀ (k : Nat) (u : Value), ((Array.range (n * sz)).map (fun i => z.cells[i % z.cells.size]!))[k]? = some u → k < n * sz ∧ u = z.cells.getD (k % sz) Go.undef := by
    intro k u hu
    have hk : k < n * sz := by have := (Array.getElem?_eq_some_iff.1 hu).1; simpa using this
    rw [mod_get hz hk] at hu
    cases hu
    exact ⟨hk, rfl⟩
  have rel : ∀ (k : Nat), k < n * sz → ∀ y, g[k % sz]? = some y → GR E y (z.cells.getD (k % sz) Go.undef) := by
    intro k hk y hy
    obtain ⟨_, _, d3, _⟩ := div_row hk
    have hlt : k % sz < z.cells.size := by rw [hz]; exact d3
    exact hr _ y _ hy (by rw [Array.getD_eq_getD_getElem?, Array.getElem?_eq_getElem hlt]; rfl)
  refine ⟨⟨by rw [hlen]; simp, fun k x u hx hu => ?_⟩, fun k u hu => ?_⟩
  · obtain ⟨hk, rfl⟩ := key k u hu
    obtain ⟨y, rfl, hy⟩ := hget k x hx
    exact .g (rel k hk y hy)
  · obtain ⟨hk, rfl⟩ := key k u hu
    obtain ⟨_, _, d3, _⟩ := div_row hk
    have hlt : k % sz < g.length := by rw [hg]; exact d3
    exact (rel k hk _ (List.getElem?_eq_getElem hlt)).one

theorem nilG_ok (hr : HR w (full h s) L) {x : AV} {c : Value} (hx : AR (envOf w (full h s) L) x c) : AR (envOf w (full h s) L) (nilG h s x) c := by
  unfold nilG
  split
  · split
    · rename_i id g sz off len hc
      obtain ⟨rfl, hcur⟩ := hc
      have hb := (ms_nil hr hcur hx).1 rfl
      obtain ⟨_, _, _, hm⟩ := ms_ok hr hcur hx
      unfold MsOk at hm
      rw [hb] at hm
      obtain ⟨rfl, _, _⟩ := hm
      exact .g .nsl
    · exact hx
  · exact hx
theorem i_bslice (hr : HR w (full h s) L) (ht : TR (envOf w (full h s) L) a s.t) {o : Oper} {t e : TypeId} {n : Nat} {ps : Array (Nat × Operand)} {r : Nat × Nat × List GV} {l : List (Nat × Nat × Opd)} (ho : o.op = .buildSlice t n ps) (hu : P.underlying t = some (.slice e)) (hrow : rowT P e = some r)
    (hl : cParts (fun i => some (i * r.1, r.1)) ps.toList = some l) (hn : n * r.1 ≤ 16777216) (he : evI h nb s (.bslice r.1 n r.2.2 l) = some (v, s', ws)) : Im w (full h s) L ((execOp a.eval o).run P w) v (full h s') ws ∧ s'.t = s.t := by
  obtain ⟨q1, q2, q3, i, z, hi, hz0, hz, hzs, hzr⟩ := rowT_ok hrow
  simp only [evI] at he
  cases hf : fills s (List.replicate n (r.2.2.map AV.g)).flatten l with
  | none => simp [hf] at he
  | some cs =>
    simp only [hf] at he
    cases hg : orG (grounds cs) (grounds (cs.map (nilG h s))) with
    | none => simp [hg] at he
    | some gs =>
      simp [hg] at he
      obtain ⟨rfl, rfl, rfl⟩ := he
      refine ⟨?_, rfl⟩
      obtain ⟨z1, z2⟩ := zero_crel (E := envOf w (full h s) L) hzs q3 (hzr _) n
      obtain ⟨C', hfill, hcr', h1'⟩ := fills_ok ht (fun i => some (i * r.1, r.1)) ps.toList l _ cs _ hl hf z1 z2
      have hcr2 : CRel (envOf w (full h s) L) (gs.map .g) C' := by
        unfold orG at hg
        split at hg
        · rename_i gs' hg'
          cases hg
          rw [← grounds_ok (E := envOf w (full h s) L) hg']
          exact hcr'
        · rw [← grounds_ok (E := envOf w (full h s) L) hg]
          refine ⟨by simpa using hcr'.1, fun j x y hx hy => ?_⟩
          rw [List.getElem?_map] at hx
          cases hq : cs[j]? with
          | none => simp [hq] at hx
          | some x0 =>
            simp [hq] at hx
            subst hx
            exact nilG_ok hr (hcr'.2 j x0 y hq hy)
      have hsz : C'.size = n * r.1 := by
        rw [← hcr'.1]
        have : ∀ (ps : List (Nat × Nat × Opd)) (cs cs' : List AV), fills s cs ps = some cs' → cs'.length = cs.length := by
          intro ps
          induction ps with
          | nil => intro cs cs' h; simp [fills] at h; rw [h]
          | cons p ps ih =>
            obtain ⟨o1, n1, x1⟩ := p
            intro cs cs' h
            simp only [fills] at h
            cases hv : val s x1 with
            | none => simp [hv] at h
            | some u =>
              simp only [hv] at h
              cases hco : u.cellsO with
              | none => simp [hco] at h
              | some us =>
                simp only [hco] at h
                cases hfa : fillA cs o1 n1 us with
                | none => simp [hfa] at h
                | some cs1 =>
                  simp only [hfa] at h
                  rw [ih _ _ h]
                  unfold fillA at hfa
                  split at hfa
                  · simp at hfa; rw [← hfa]; simp; omega
                  · cases hfa
        rw [this l _ cs hf]
        simp [q3]
      have hgw := Grows.push w (.cells C' e)
      obtain ⟨g1, g2⟩ := hr.grow hgw
      have hgl : gs.length = n * r.1 := by have := hcr2.1; simp at this; omega
      refine im_value (cv := .slice (some ⟨w.heap.size, 0, none⟩) n n) (w' := { w with heap := w.heap.push (.cells C' e) }) (L' := L) ?_ (.g (GR.ofRow (T := e) (fr := (0, 0)) (C := C') (heap_push _ _) ?_ (Nat.le_refl _) hgl (fun j g hj => ?_))) g1 g2 (same_grow hr hgw [])
      · simp only [execOp, ho]
        rw [Sem.run_bind]
        unfold Instr.buildSlice
        have hfill' : Instr.fill (fun i => some (i * r.1, r.1)) ((Array.range (n * r.1)).map fun x => z.cells[x % z.cells.size]!) (ps.map fun (i, x) => (i, a.eval x)).toList = some C' := by
          rw [← hfill]; simp
        have hn' : ¬ (n * r.1 > 2 ^ 24) := by omega
        by_cases hz' : n * r.1 = 0
        · have e0 : ((Array.range (n * r.1)).map fun x => z.cells[x % z.cells.size]!) = (Array.range (n * r.1)).map fun x => (#[] : Array Value)[x % (#[] : Array Value).size]! := by rw [hz', map_range_zero, map_range_zero]
          rw [e0] at hfill'
          simp only [Sem.run_bind, run_underlying hu, Result.andThen_ok, run_sizeOf q1, hn', if_false, hz', if_true, Sem.run_pure, Sem.run_ite, pure_bind]
          rw [hz'] at hfill'
          simp only [hfill']
          simp [newRow]
        · simp only [Sem.run_bind, run_underlying hu, Result.andThen_ok, run_sizeOf q1, hn', if_false, hz', Sem.run_pure, Sem.run_ite, zeroValue, typeInfo, run_program, hi, hz0, pure_bind, hfill']
          simp [newRow]
      · rintro ⟨id, k, k1, k2, k3⟩
        have := (hr.blk id k k1).lt k2 k3
        simp [envOf] at this
      · have hlt : j < C'.size := by rw [hsz, ← hgl]; exact (List.getElem?_eq_some_iff.1 hj).1
        refine ⟨C'[j], Array.getElem?_eq_getElem hlt, ?_⟩
        have := hcr2.2 j (.g g) _ (by simp [hj]) (Array.getElem?_eq_getElem hlt)
        exact this.inv_g.mono g2

theorem i_mk0 (hr : HR w (full h s) L) {o : Oper} {t e : TypeId} {ps : Array (Nat × Operand)} {r : Nat × Nat × List GV} (ho : o.op = .buildSlice t 0 ps) (hps : ps.size = 0) (hu : P.underlying t = some (.slice e)) (hrow : rowT P e = some r)
    (he : evI h nb s (.mk0 r.1) = some (v, s', ws)) : Im w (full h s) L ((execOp a.eval o).run P w) v (full h s') ws ∧ s'.t = s.t := by
  obtain ⟨q1, q2, q3, i, z, hi, hz0, hz, hzs, hzr⟩ := rowT_ok hrow
  simp only [evI] at he
  simp at he
  obtain ⟨rfl, rfl, rfl⟩ := he
  have hps' : ps = #[] := Array.eq_empty_of_size_eq_zero hps
  subst hps'
  refine ⟨?_, rfl⟩
  obtain ⟨L', k1, k2, k3, k4⟩ := hr.newRows (Grows.push w (.cells #[] e)) r.1 [] 0 #[] e w.heap.size (Nat.le_refl _) (heap_push _ _) ⟨by simp, by simp, fun i el hi' => by simp at hi'⟩ []
  rw [full_length] at k4
  rw [full_push]
  refine im_value (cv := .slice (some ⟨w.heap.size, 0, none⟩) 0 0) ?_ (by simpa using k4) (by simpa using k1) (by simpa using k2) k3
  simp only [execOp, ho]
  rw [Sem.run_bind]
  unfold Instr.buildSlice
  simp [run_underlying hu, run_sizeOf q1, newRow, Instr.fill]
  rw [map_range_zero]

theorem i_mk (hr : HR w (full h s) L) (ht : TR (envOf w (full h s) L) a s.t) {o : Oper} {t e : TypeId} {l c : Operand} {X Y : Opd} {r : Nat × Nat × List GV} (ho : o.op = .makeSlice t l c) (hu : P.underlying t = some (.slice e)) (hrow : rowT P e = some r)
    (hx : cOpd l = some X) (hy : cOpd c = some Y) (he : evI h nb s (.mk r.1 r.2.1 r.2.2 X Y) = some (v, s', ws)) : Im w (full h s) L ((execOp a.eval o).run P w) v (full h s') ws ∧ s'.t = s.t := by
  obtain ⟨q1, q2, q3, i, z, hi, hz0, hz, hzs, hzr⟩ := rowT_ok hrow
  simp only [evI] at he
  split at he
  · rename_i n m hX hY
    split at he
    · rename_i hcond
      obtain ⟨rfl, n0, n1, n2⟩ := hcond
      simp at he
      obtain ⟨rfl, rfl, rfl⟩ := he
      refine ⟨?_, rfl⟩
      have e1 := (cOpd_ok ht hx hX).inv_g.inv_int
      have e2 := (cOpd_ok ht hy hY).inv_g.inv_int
      obtain ⟨k, rfl⟩ : ∃ k : Nat, n = k := ⟨n.toNat, (Int.toNat_of_nonneg n0).symm⟩
      have hns := zero_new (E := envOf w (full h s) L) hzs q3 (hzr _) k
      have hrows : RowsIn (envOf w (full h s) L) ((Array.range (k * r.1)).map fun x => z.cells[x % z.cells.size]!) r.1 k (List.replicate k r.2.2) := by
        refine ⟨by simp, by simp, fun i el hi' => ?_⟩
        obtain ⟨p1, p2⟩ := hns.2 i el hi'
        refine ⟨p1, fun j g hj => ?_⟩
        obtain ⟨u, u1, u2⟩ := p2 j g hj
        refine ⟨u, ?_, u2⟩
        rw [← hzs]
        have : (Builtin.zeroCells z.cells k).toList[i * r.1 + j]? = (Builtin.zeroCells z.cells k)[i * r.1 + j]? := by simp
        rw [this] at u1
        rw [hzs]
        rw [← u1]
        unfold Builtin.zeroCells
        rw [hzs]
      obtain ⟨L', k1, k2, k3, k4⟩ := hr.newRows (Grows.push w (.cells ((Array.range (k * r.1)).map fun x => z.cells[x % z.cells.size]!) e)) r.1 (List.replicate k r.2.2) k _ e w.heap.size (Nat.le_refl _) (heap_push _ _) hrows []
      rw [full_length] at k4
      rw [full_push]
      have hkk : (List.replicate k r.2.2).length = k := by simp
      rw [hkk] at k4
      refine im_value (cv := .slice (some ⟨w.heap.size, 0, none⟩) k k) ?_ (by simpa using k4) (by simpa using k1) (by simpa using k2) k3
      simp only [execOp, ho, e1, e2]
      rw [Sem.run_bind]
      unfold Instr.makeSlice
      have hw : IntKind.i64.wrap (k : Int) = k := IntWalk.i64_in _ (by omega)
      obtain ⟨i', hi', hs', hb'⟩ := info_of q1 q2
      rw [hi] at hi'; cases hi'
      have hl1 : ¬ ((k : Int) < 0) := by omega
      have hl2 : ¬ ((i.bytes : Int) * (k : Int) > 2 ^ 48) := by rw [hb', Int.mul_comm]; omega
      have ht1 : IntKind.i64.wrap (k : Int) = k := hw
      have hb1 : (i.bytes : Int) * (k : Int) ≤ 281474976710656 := by rw [hb', Int.mul_comm]; exact n2
      have hb2 : ¬ (281474976710656 < (i.bytes : Int) * (k : Int)) := by omega
      by_cases hz' : k * r.1 = 0
      · have e0 : ((Array.range (k * r.1)).map fun x => z.cells[x % z.cells.size]!) = #[] := by rw [hz', map_range_zero]
        rw [e0]
        simp [run_underlying hu, asInt, asIntOf, typeInfo, hi, hw, hl1, hb2, run_sizeOf q1, hz', newRow]
        rw [map_range_zero]
      · simp [run_underlying hu, asInt, asIntOf, typeInfo, zeroValue, hi, hz0, hw, hl1, hb2, run_sizeOf q1, hz', newRow]
    · cases he
  · cases he

theorem bytesOfG_ok : ∀ {els : List (List GV)} {b : List UInt8}, evI.bytesOfG els = some b → ∃ ns : List Int, els = ns.map (fun n => [.int .u8 n]) ∧ b = ns.map fun n => UInt8.ofNat n.toNat := by
  intro els
  induction els with
  | nil => intro b h; simp [evI.bytesOfG] at h; subst h; exact ⟨[], rfl, rfl⟩
  | cons el els ih =>
    intro b h
    unfold evI.bytesOfG at h
    split at h
    · rename_i heq; cases heq
    · rename_i n r heq
      cases heq
      cases hr : evI.bytesOfG els with
      | none => simp [hr] at h
      | some b' =>
        simp [hr] at h
        obtain ⟨ns, h1, h2⟩ := ih hr
        exact ⟨n :: ns, by simp [h1], by rw [← h, h2]; rfl⟩
    · cases h

theorem foldl_push (ns : List Int) : ∀ (l : List UInt8), ns.foldl (fun r n => r.push (UInt8.ofNat n.toNat)) (ByteArray.mk l.toArray) = ByteArray.mk (l ++ ns.map fun n => UInt8.ofNat n.toNat).toArray := by
  induction ns with
  | nil => intro l; simp
  | cons n ns ih =>
    intro l
    have : (ByteArray.mk l.toArray).push (UInt8.ofNat n.toNat) = ByteArray.mk (l ++ [UInt8.ofNat n.toNat]).toArray := by
      show ByteArray.mk (l.toArray.push _) = _
      simp
    simp only [List.foldl_cons, this, ih, List.map_cons, List.append_assoc, List.singleton_append]

theorem i_convBS (hr : HR w (full h s) L) (ht : TR (envOf w (full h s) L) a s.t) {o : Oper} {t1 t2 e : TypeId} {x : Operand} {X : Opd} (ho : o.op = .convert t1 t2 x) (hu1 : P.underlying t1 = some (.slice e)) (hu2 : P.underlying t2 = some .string) (hi : intT P e = some .u8)
    (hx : cOpd x = some X) (he : evI h nb s (.convBS X) = some (v, s', ws)) : Im w (full h s) L ((execOp a.eval o).run P w) v (full h s') ws ∧ s'.t = s.t := by
  simp only [evI] at he
  cases hX : val s X with
  | none => simp [hX] at he
  | some vx =>
    simp only [hX] at he
    cases hv : viewN h s 1 vx with
    | none => simp [hv] at he
    | some els =>
      simp only [hv] at he
      cases hb : evI.bytesOfG els with
      | none => simp [hb] at he
      | some b =>
        simp [hb] at he
        obtain ⟨rfl, rfl, rfl⟩ := he
        refine ⟨?_, rfl⟩
        have hu3 : P.underlying e = some (.int .u8) := by
          unfold intT at hi
          cases hq : P.underlying e with
          | none => simp [hq] at hi
          | some d => cases d <;> simp [hq] at hi; subst hi; rfl
        obtain ⟨A, cap, news, e1, _, hns, hf⟩ := viewN_ok (P := P) hr hv (cOpd_ok ht hx hX)
        obtain ⟨ns, rfl, rfl⟩ := bytesOfG_ok hb
        have hnews : news = ns.map (Value.int .u8) := by
          apply List.ext_getElem?
          intro i
          by_cases hi' : i < ns.length
          · obtain ⟨p1, p2⟩ := hns.2 i [.int .u8 ns[i]] (by simp [hi'])
            obtain ⟨u, u1, u2⟩ := p2 0 (.int .u8 ns[i]) rfl
            rw [Nat.mul_one, Nat.add_zero] at u1
            rw [u1, u2.inv_int]; simp [hi']
          · rw [List.getElem?_eq_none (by rw [hns.1]; simp; omega), List.getElem?_eq_none (by simp; omega)]
        refine im_value (cv := .string ⟨(ns.map fun n => UInt8.ofNat n.toNat).toArray⟩) (w' := w) (L' := L) ?_ (.g (.str _)) hr (Ext.refl _) (fun _ _ _ => ⟨rfl, fun _ _ _ => rfl⟩)
        simp only [execOp, ho]
        have hf' := hf w rfl
        rw [e1] at hf' ⊢
        rw [Sem.run_bind, run_convert_bytes_string w t1 t2 e A _ cap hu1 hu3 hu2]
        have hlen : (List.map (fun n => [GV.int IntKind.u8 n]) ns).length = ns.length := by simp
        rw [hlen] at hf' ⊢
        cases A with
        | none =>
          have h0 : ns = [] := by
            simp [Builtin.firstCells] at hf'
            rw [hnews] at hf'
            simpa using hf'
          subst h0
          simp [Conv.bytesToString]
          rfl
        | some A =>
          have hl : (loadCells A ns.length).run P w = .ok (ns.map (Value.int .u8)).toArray w := by
            simp only [Builtin.firstCells, Nat.mul_one] at hf'
            rw [hf', hnews]
          rw [run_bytesToString w A ns.length cap ns hl]
          have := foldl_push ns []
          simp only [List.nil_append] at this
          have e0 : ByteArray.empty = ByteArray.mk ([] : List UInt8).toArray := rfl
          rw [e0, this]
          rfl

theorem i_allocAt (hr : HR w (full h s) L) {o : Oper} {t : TypeId} {z : List Z} {k : Nat} (ho : o.op = .alloc t) (hz : cZ P t = some z) (he : evI h nb s (.allocAt k z) = some (v, s', ws)) :
    Im w (full h s) L ((execOp a.eval o).run P w) v (full h s') ws ∧ s'.t = s.t := by
  simp only [evI] at he
  cases hB : getB h s (nb + k) with
  | none => simp [hB] at he
  | some kk =>
    cases kk <;> simp [hB] at he
    obtain ⟨_, rfl, rfl, rfl⟩ := he
    refine ⟨?_, setB_t _ _ _ _⟩
    have hget : (full h s)[nb + k]? = some .pend := by rw [getB_full]; exact hB
    obtain ⟨p1, p2, p3⟩ := hr.blk _ _ hget
    obtain ⟨i, zv, hi, hzz, hzr, hone⟩ := cZ_ok hz
    have hgw := Grows.push w (.cells zv.cells t)
    have hlt : nb + k < (full h s).length := (List.getElem?_eq_some_iff.1 hget).1
    have hzl : (zplain z).length = zv.cells.size := by
      have : ∀ z : List Z, (zplain z).length = z.length := by
        intro z
        induction z with
        | nil => rfl
        | cons x z ih => cases x <;> simp [zplain, ih]
      rw [this, hzr.1]; simp
    have hzp : ∀ (E : Env) (z : List Z) (cs : List Value), ZRel z cs → ∀ (j : Nat) (x : AV) (c : Value), (zplain z)[j]? = some x → cs[j]? = some c → AR E x c := by
      intro E z
      induction z with
      | nil => intro cs hz j x c hx; simp [zplain] at hx
      | cons y z ih =>
        intro cs hz j x c hx hc
        cases cs with
        | nil => simp at hc
        | cons d cs =>
          cases j with
          | zero =>
            rcases hz.2 0 y d rfl rfl with ⟨v, rfl, hv⟩ | ⟨n, rfl, rfl⟩
            · simp [zplain] at hx hc; subst hx hc; exact cVal_ok hv
            · simp [zplain] at hx hc; subst hx hc; exact .g .nsl
          | succ j => cases y <;> exact ih cs hz.tail j x c (by simpa [zplain] using hx) (by simpa using hc)
    obtain ⟨e1, e2⟩ := hr.turn (w' := { w with heap := w.heap.push (.cells zv.cells t) }) (k' := .cells (zplain z)) hget rfl ⟨some w.heap.size, 1, 0, true⟩ rfl rfl rfl hgw.size (fun b hb _ => hgw.old b hb)
      (.inr ⟨trivial, p1, by show (L (nb + k)).gen < 1; have : (L (nb + k)).gen = 0 := p2; omega⟩) (by intro b hb; simp at hb; right; omega) (fun hext => by
        have hLid : (envOf { w with heap := w.heap.push (.cells zv.cells t) } ((full h s).set (nb + k) (.cells (zplain z))) (updL L (nb + k) ⟨some w.heap.size, 1, 0, true⟩)).L (nb + k) = ⟨some w.heap.size, 1, 0, true⟩ := updL_self _ _ _
        refine ⟨by rw [hLid], w.heap.size, t, zv.cells, by rw [hLid], heap_push _ _, hzl.symm, fun j x hj => ?_⟩
        have hjl : j < zv.cells.size := by rw [← hzl]; exact (List.getElem?_eq_some_iff.1 hj).1
        exact ⟨zv.cells[j], Array.getElem?_eq_getElem hjl, hzp _ z _ hzr j x _ hj (by simp [hjl]), hone j _ (Array.getElem?_eq_getElem hjl)⟩)
    rw [full_setB]
    refine im_value (cv := .pointer (some ⟨w.heap.size, 0, none⟩)) ?_ (.ptr (by simpa [envOf] using hlt) ?_ ?_) e1 e2 (fun j hj hne => ⟨updL_ne _ _ _ (by simpa using hne), (same_grow hr hgw [] j hj (by simp)).2⟩)
    · simp only [execOp, ho, Instr.alloc]
      simp [zeroValue, typeInfo, hi, hzz, run_newVar]
    · show (updL L (nb + k) _ (nb + k)).st = true; rw [updL_self]
    · show (updL L (nb + k) _ (nb + k)).blk = _; rw [updL_self]

theorem freeze_heap (w : World) (b : Nat) (C : Array Value) (T : TypeId) (o n : Nat) (hn : n ≠ 0) (hb : w.heap[b]? = some (.cells C T (0, 0))) :
    (w.freeze ⟨b, o, none⟩ n).heap[b]? = some (.cells C T (o, o + n)) ∧ (∀ b', b' ≠ b → (w.freeze ⟨b, o, none⟩ n).heap[b']? = w.heap[b']?) ∧ (w.freeze ⟨b, o, none⟩ n).heap.size = w.heap.size := by
  unfold World.freeze
  rw [if_neg hn]
  refine ⟨?_, fun b' hb' => ?_, by simp⟩
  · simp only [Array.getElem?_modify, if_true, hb, Option.map_some]
    rfl
  · simp only [Array.getElem?_modify]
    rw [if_neg (by omega)]

theorem i_convSB (hr : HR w (full h s) L) (ht : TR (envOf w (full h s) L) a s.t) {o : Oper} {t1 t2 e : TypeId} {x : Operand} {X : Opd} (ho : o.op = .convert t1 t2 x) (hu1 : P.underlying t1 = some .string) (hu2 : P.underlying t2 = some (.slice e)) (hi : intT P e = some .u8)
    (hx : cOpd x = some X) (he : evI h nb s (.convSB X) = some (v, s', ws)) : Im w (full h s) L ((execOp a.eval o).run P w) v (full h s') ws ∧ s'.t = s.t := by
  simp only [evI] at he
  split at he
  · rename_i b hX
    simp at he
    obtain ⟨rfl, rfl, rfl⟩ := he
    refine ⟨?_, rfl⟩
    have hxe := (cOpd_ok ht hx hX).inv_g.inv_str
    have hu3 : P.underlying e = some (.int .u8) := by
      unfold intT at hi
      cases hq : P.underlying e with
      | none => simp [hq] at hi
      | some d => cases d <;> simp [hq] at hi; subst hi; rfl
    let cap := grownCap w b.length 0 e
    have hge : b.length ≤ cap := grownCap_ge w b.length 0 e
    let C : Array Value := (b.toArray.map fun c => Value.int .u8 c.toNat) ++ Array.replicate (cap - b.length) (.int .u8 0)
    have hCs : C.size = cap := by simp [C]; omega
    let w1 : World := w.drew.alloc (.cells C e)
    have hb1 : w1.heap[w.heap.size]? = some (.cells C e (0, 0)) := heap_alloc_new w.drew _
    obtain ⟨f1, f2, f3⟩ := freeze_heap w1 w.heap.size C e cap 1 (by decide) hb1
    have hgw : Grows w (w1.freeze ⟨w.heap.size, cap, none⟩ 1) := by
      have g1 : Grows w w1 := (Grows.drew w (w.drawn + 1)).trans (Grows.push _ _)
      refine ⟨?_, ?_, ?_, by rw [f3]; exact g1.size, fun b' hb' => by rw [f2 b' (by omega)]; exact g1.old b' hb'⟩ <;> (unfold World.freeze; rw [if_neg (by decide)]; rfl)
    obtain ⟨g1, g2⟩ := hr.grow hgw
    have hgs : chunk 1 b.length (b.map fun c => GV.int .u8 c.toNat) = bytesG b := by
      apply List.ext_getElem?
      intro i
      by_cases hi' : i < b.length
      · have h1 : i < (chunk 1 b.length (b.map fun c => GV.int .u8 c.toNat)).length := by rw [chunk_length]; exact hi'
        obtain ⟨_, e1⟩ := chunk_get 1 b.length _ i _ (List.getElem?_eq_getElem h1)
        rw [List.getElem?_eq_getElem h1, e1]
        rw [Nat.mul_one, List.drop_eq_getElem_cons (by simpa using hi')]
        simp [bytesG, List.getElem?_eq_getElem hi']
      · rw [List.getElem?_eq_none (by rw [chunk_length]; omega), List.getElem?_eq_none (by simp [bytesG]; omega)]
    refine im_value (cv := .slice (some ⟨w.heap.size, 0, none⟩) b.length cap) (w' := w1.freeze ⟨w.heap.size, cap, none⟩ 1) (L' := L) ?_ ?_ g1 g2 (same_grow hr hgw [])
    · simp only [execOp, ho, hxe]
      rw [Sem.run_bind]
      unfold convert
      simp only [Sem.run_bind, run_underlying hu1, run_underlying hu2, run_underlying hu3, Result.andThen_ok]
      unfold Conv.stringToBytes
      have hsz : (ByteArray.mk b.toArray).size = b.length := List.size_toArray
      simp only [Sem.run_bind, run_choose, Question.forced, Bool.false_eq_true, if_false, Result.andThen_ok, hsz, newRow, run_newObj, Sem.run_pure]
      have hms : (markStringish ⟨w.heap.size, 0, none⟩).run P w1 = .ok () (w1.freeze ⟨w.heap.size, cap, none⟩ 1) := by
        unfold markStringish
        have hsh : w1.shape? w.heap.size = some (e, C.size) := by simp [World.shape?, hb1]
        simp only [Sem.run_bind, run_shape, Result.andThen_ok, hsh, run_freeze, hCs]
      show (((Sem.run P (markStringish ⟨w.heap.size, 0, none⟩) w1).andThen _).andThen _) = _
      rw [hms]
      rfl
    · refine .g ?_
      rw [← hgs]
      refine GR.ofRow f1 ?_ hge (by simp) (fun j g hj => ?_)
      · rintro ⟨id, k, k1, k2, k3⟩
        have := (hr.blk id k k1).lt k2 k3
        simp [envOf] at this
      · simp at hj
        obtain ⟨c, hc, rfl⟩ := hj
        have hjl : j < b.length := (List.getElem?_eq_some_iff.1 hc).1
        refine ⟨.int .u8 c.toNat, ?_, .int _ _⟩
        show C[j]? = _
        simp only [C]
        rw [Array.getElem?_append_left (by simpa using hjl)]
        simp [hc]
  · cases he

theorem evI_ok (hr : HR w (full h s) L) (ht : TR (envOf w (full h s) L) a s.t) {o : Oper} {ao : AOp} (hc : cOp P drw o = some ao) (he : evI h nb s ao = some (v, s', ws)) :
    Im w (full h s) L ((execOp a.eval o).run P w) v (full h s') ws ∧ s'.t = s.t := by
  cases ho : o.op with
  | assign x =>
    simp only [cOp, ho] at hc
    split at hc
    · cases hE : elemT P o.type with
      | none => simp [hE] at hc
      | some e => cases hs : szT P e with
        | none => simp [hE, hs] at hc
        | some n => simp [hE, hs] at hc; subst hc; exact i_nres hr ho he
    · obtain ⟨X, hx, rfl⟩ := map_some_inv hc; simp [evI] at he
  | alloc t =>
    simp only [cOp, ho] at hc
    obtain ⟨z, hz, hc⟩ := bind_some_inv hc
    split at hc
    · split at hc
      · cases hc; exact i_allocT hr ho hz he
      · cases hc; exact i_alloc hr ho hz he
    · cases hc; exact i_allocAt hr ho hz he
  | box t x =>
    simp only [cOp, ho] at hc
    split at hc
    · obtain ⟨X, hx, hc⟩ := bind_some_inv hc; cases hc; exact i_box hr ht ho hx he
    · cases hc
  | store t p x =>
    simp only [cOp, ho] at hc
    obtain ⟨n, hn, hc⟩ := bind_some_inv hc
    obtain ⟨Pp, hp, hc⟩ := bind_some_inv hc
    obtain ⟨X, hx, hc⟩ := bind_some_inv hc
    cases hc
    exact i_store hr ht ho hn hp hx he
  | buildSlice t n ps =>
    simp only [cOp, ho] at hc
    split at hc
    · rename_i e hu
      split at hc
      · rename_i r hrow
        split at hc
        · rename_i h0; cases hc; obtain ⟨rfl, hps⟩ := h0; exact i_mk0 hr ho hps hu hrow he
        split at hc
        · rename_i l hl
          split at hc
          · rename_i hn; cases hc; exact i_bslice hr ht ho hu hrow hl hn he
          · cases hc
        · cases hc
      · cases hc
    · cases hc
  | makeSlice t l c =>
    simp only [cOp, ho] at hc
    split at hc
    · rename_i e hu
      split at hc
      · rename_i r x y hrow hx hy; cases hc; exact i_mk hr ht ho hu hrow hx hy he
      · cases hc
    · cases hc
  | convert t1 t2 x =>
    simp only [cOp, ho] at hc
    obtain ⟨X, hx, hc⟩ := bind_some_inv hc
    split at hc
    · cases hc; simp [evI] at he
    · cases hc; simp [evI] at he
    · rename_i e hu1 hu2
      split at hc
      · rename_i hcond; cases hc; exact i_convSB hr ht ho hu1 hu2 hcond.1 hx he
      · cases hc
    · rename_i e hu1 hu2
      split at hc
      · rename_i hcond; cases hc; exact i_convBS hr ht ho hu1 hu2 hcond.1 hx he
      · cases hc
    · rename_i t hu1 hu2
      split at hc
      · rename_i n hs
        split at hc
        · rename_i hn; cases hc; exact i_toU hr ht ho hu1 hu2 hs hn hx he
        · cases hc
      · cases hc
    · rename_i u hu1 hu2
      split at hc
      · rename_i hs; cases hc; exact i_fromU hr ht ho hu1 hu2 hs hx he
      · cases hc
    · cases hc
  | call c =>
    obtain ⟨dst, o', ty, pos, after, gd⟩ := o
    simp only at ho
    subst ho
    obtain ⟨callee, cargs, cts⟩ := c
    simp only [cOp, cCall] at hc
    cases callee with
    | value f =>
      dsimp only at hc
      split at hc
      · cases hc; simp [evI] at he
      · cases hc
    | invoke r m => cases hc
    | builtin b =>
      dsimp only at hc
      split at hc
      · rename_i xs hxs; exact i_builtin hr ht hxs hc he
      · cases hc
  | move x => simp only [cOp, ho] at hc; obtain ⟨X, hx, rfl⟩ := map_some_inv hc; simp [evI] at he
  | pick c x y =>
    simp only [cOp, ho] at hc
    obtain ⟨_, _, hc⟩ := bind_some_inv hc
    obtain ⟨_, _, hc⟩ := bind_some_inv hc
    obtain ⟨_, _, hc⟩ := bind_some_inv hc
    cases hc; simp [evI] at he
  | binOp op t x y yt =>
    simp only [cOp, ho] at hc
    obtain ⟨X, hx, hc⟩ := bind_some_inv hc
    obtain ⟨Y, hy, hc⟩ := bind_some_inv hc
    have key : ∀ op, (if scalarT P t then some (AOp.bin op X Y) else match nilK P t y with
          | some k => some (.isnil (op == .neq) k X)
          | none => match nilK P t x with
            | some k => some (.isnil (op == .neq) k Y)
            | none => if nilSl P t y = true then some (.isnilS (op == .neq) X) else if nilSl P t x = true then some (.isnilS (op == .neq) Y) else if (op == .neq && ptrT P t) = true then some (.neqp X Y) else match flatK P 20 t with
              | some ks => if P.eqGuardType P.depth t = false then (aggT P t).map fun ag => .eqs (op == .neq) ag ks X Y else none
              | none => none) = some ao → (op = .neq ∧ ptrT P t = true ∧ ao = .neqp X Y) := by
      intro op hc
      split at hc
      · cases hc; simp [evI] at he
      · split at hc
        · cases hc; simp [evI] at he
        · split at hc
          · cases hc; simp [evI] at he
          · split at hc
            · cases hc; simp [evI] at he
            split at hc
            · cases hc; simp [evI] at he
            split at hc
            · rename_i hpn
              cases hc
              simp only [Bool.and_eq_true] at hpn
              exact ⟨by cases op <;> first | rfl | (exact absurd hpn.1 (by decide)), hpn.2, rfl⟩
            split at hc
            · split at hc
              · obtain ⟨ag, _, rfl⟩ := map_some_inv hc; simp [evI] at he
              · cases hc
            · cases hc
    cases op <;> dsimp only at hc <;> first
      | (have k0 := key _ hc; have k1 := k0.1; cases k1; done)
      | (have k0 := key _ hc; rw [k0.2.2] at he; exact i_neqp hr ht ho k0.2.1 hx hy he)
      | (cases hc; simp [evI] at he)
  | unOp op t x => simp only [cOp, ho] at hc; obtain ⟨_, _, hc⟩ := bind_some_inv hc; cases hc; simp [evI] at he
  | field t x f =>
    simp only [cOp, ho] at hc
    obtain ⟨_, _, hc⟩ := bind_some_inv hc
    obtain ⟨_, _, hc⟩ := bind_some_inv hc
    obtain ⟨_, _, hc⟩ := bind_some_inv hc
    obtain ⟨_, _, hc⟩ := bind_some_inv hc
    cases hc; simp [evI] at he
  | fieldAddr t x f =>
    simp only [cOp, ho] at hc
    obtain ⟨_, _, hc⟩ := bind_some_inv hc
    obtain ⟨_, _, hc⟩ := bind_some_inv hc
    split at hc
    · obtain ⟨_, _, hc⟩ := bind_some_inv hc; cases hc; simp [evI] at he
    · cases hc
  | indexAddr t x i =>
    simp only [cOp, ho] at hc
    split at hc
    · obtain ⟨_, _, hc⟩ := bind_some_inv hc
      obtain ⟨_, _, hc⟩ := bind_some_inv hc
      obtain ⟨_, _, hc⟩ := bind_some_inv hc
      cases hc; simp [evI] at he
    · obtain ⟨_, _, hc⟩ := bind_some_inv hc
      obtain ⟨_, _, hc⟩ := bind_some_inv hc
      obtain ⟨_, _, hc⟩ := bind_some_inv hc
      cases hc; simp [evI] at he
    · cases hc
  | index t x i =>
    simp only [cOp, ho] at hc
    split at hc
    · obtain ⟨_, _, hc⟩ := bind_some_inv hc
      obtain ⟨_, _, hc⟩ := bind_some_inv hc
      cases hc; simp [evI] at he
    · obtain ⟨_, _, hc⟩ := bind_some_inv hc
      obtain ⟨_, _, hc⟩ := bind_some_inv hc
      obtain ⟨_, _, hc⟩ := bind_some_inv hc
      obtain ⟨_, _, hc⟩ := bind_some_inv hc
      cases hc; simp [evI] at he
    · cases hc
  | load t p =>
    simp only [cOp, ho] at hc
    obtain ⟨_, _, hc⟩ := bind_some_inv hc
    obtain ⟨_, _, hc⟩ := bind_some_inv hc
    split at hc
    · split at hc
      · cases hc; simp [evI] at he
      · cases hc
    split at hc
    · obtain ⟨_, _, hc⟩ := bind_some_inv hc; cases hc; simp [evI] at he
    · cases hc
  | extract x j => simp only [cOp, ho] at hc; obtain ⟨X, hx, rfl⟩ := map_some_inv hc; simp [evI] at he
  | build t ps =>
    simp only [cOp, ho] at hc
    obtain ⟨_, _, hc⟩ := bind_some_inv hc
    obtain ⟨_, _, hc⟩ := bind_some_inv hc
    obtain ⟨_, _, hc⟩ := bind_some_inv hc
    cases hc; simp [evI] at he
  | slice t x lo hi mx =>
    simp only [cOp, ho] at hc
    split at hc
    · split at hc
      · obtain ⟨_, _, hc⟩ := bind_some_inv hc
        obtain ⟨_, _, hc⟩ := bind_some_inv hc
        obtain ⟨_, _, hc⟩ := bind_some_inv hc
        cases hc; simp [evI] at he
      · cases hc
    · split at hc
      · obtain ⟨_, _, hc⟩ := bind_some_inv hc
        obtain ⟨_, _, hc⟩ := bind_some_inv hc
        obtain ⟨_, _, hc⟩ := bind_some_inv hc
        obtain ⟨_, _, hc⟩ := bind_some_inv hc
        cases hc; simp [evI] at he
      · obtain ⟨_, _, hc⟩ := bind_some_inv hc
        obtain ⟨_, _, hc⟩ := bind_some_inv hc
        obtain ⟨_, _, hc⟩ := bind_some_inv hc
        obtain ⟨_, _, hc⟩ := bind_some_inv hc
        obtain ⟨_, _, hc⟩ := bind_some_inv hc
        cases hc; simp [evI] at he
    · cases hc
  | makeInterface t x =>
    simp only [cOp, ho] at hc
    split at hc
    · cases hc
    · obtain ⟨X, hx, rfl⟩ := map_some_inv hc; simp [evI] at he
    · cases hc
  | makeFunc fn first caps =>
    cases fn <;> simp only [cOp, ho] at hc <;> try (cases hc; done)
    · split at hc
      · obtain ⟨_, _, hc⟩ := bind_some_inv hc; cases hc; simp [evI] at he
      · split at hc
        · obtain ⟨_, _, hc⟩ := bind_some_inv hc; cases hc; simp [evI] at he
        · cases hc
    · split at hc
      · cases hc; simp [evI] at he
      · cases hc
  | nilCheck x => simp only [cOp, ho] at hc; obtain ⟨X, hx, rfl⟩ := map_some_inv hc; simp [evI] at he
  | makeMap t r =>
    simp only [cOp, ho] at hc
    cases r with
    | none =>
      simp only [Option.isNone_none, if_true] at hc
      split at hc
      · cases hc; exact i_mkmap2 hr ho he
      · cases hc; exact i_mkmap hr ho he
    | some r => simp at hc
  | lookup t x k cm =>
    simp only [cOp, ho] at hc
    split at hc
    · rename_i kk z hm
      obtain ⟨X, hx, hc⟩ := bind_some_inv hc
      obtain ⟨K, hk, hc⟩ := bind_some_inv hc
      cases hc; exact i_mget hr ht ho hm hx hk he
    · split at hc
      · rename_i ks z hm
        obtain ⟨X, hx, hc⟩ := bind_some_inv hc
        obtain ⟨K, hk, hc⟩ := bind_some_inv hc
        cases hc; exact i_mget2 hr ht ho hm hx hk he
      · cases hc
  | mapUpdate t x k y =>
    simp only [cOp, ho] at hc
    split at hc
    · rename_i kk z hm
      obtain ⟨X, hx, hc⟩ := bind_some_inv hc
      obtain ⟨K, hk, hc⟩ := bind_some_inv hc
      obtain ⟨Y, hy, hc⟩ := bind_some_inv hc
      cases hc; exact i_mset hr ht (.inl ho) hm hx hk hy he
    · split at hc
      · rename_i ks z hm
        obtain ⟨X, hx, hc⟩ := bind_some_inv hc
        obtain ⟨K, hk, hc⟩ := bind_some_inv hc
        obtain ⟨Y, hy, hc⟩ := bind_some_inv hc
        cases hc; exact i_mset2 hr ht ho hm hx hk hy he
      · cases hc
  | insert t x k y =>
    simp only [cOp, ho] at hc
    split at hc
    · rename_i kk z hm
      obtain ⟨X, hx, hc⟩ := bind_some_inv hc
      obtain ⟨K, hk, hc⟩ := bind_some_inv hc
      obtain ⟨Y, hy, hc⟩ := bind_some_inv hc
      cases hc; exact i_mset hr ht (.inr ho) hm hx hk hy he
    · cases hc
  | _ => simp only [cOp, ho] at hc; cases hc

end
end Go.AM
end
section
namespace Go.AM
open Go

/-- What functions answer: of a function, its arguments and the heap. -/
abbrev FnS := FuncId → List AV → List Blk → Option Res

def AOp.acts : AOp → Bool
  | .nres _ | .mk0 _ | .alloc _ | .allocAt .. | .box _ | .bslice .. | .store .. | .mk .. | .app .. | .appS .. | .appZ .. | .clear .. | .convSB _ | .convBS _ | .allocT .. | .appT .. | .toU _ | .fromU .. | .sdata _ | .ustr .. | .neqp .. | .mkmap | .mget .. | .mset .. | .mkmap2 | .mget2 .. | .mset2 .. => true
  | _ => false

/-- The heap, some blocks out of sight. -/
def hideB : List Nat → List Blk → List Blk
  | [], H => H
  | i :: r, H => (hideB r H).set i .hid

def setAll (h : List Blk) (s : St) : List (Nat × Blk) → St
  | [] => s
  | (i, b) :: r => setB h (setAll h s r) i b

def St.app (s : St) (o : List Blk) : St := { s with o := s.o ++ o }

def isLiveB (H : List Blk) (i : Nat) : Bool :=
  match H[i]? with
  | some b => b.live
  | none => false

/-- What comes of a call's answer: its value, the state, the blocks that it wrote. -/
def fin (h : List Blk) (hd : List Nat) (s : St) : Option Res → Option (AV × St × List Nat)
  | some ⟨r, m, o⟩ => if (m.all fun p => !hd.contains p.1) = true then some (r, (setAll h s m).app o, m.map (·.1)) else none
  | none => none

def evCall (E : FnS) (h : List Blk) (hd : List Nat) (s : St) (f : AV) (xs : List AV) : Option (AV × St × List Nat) :=
  if (hd.all (isLiveB (full h s))) = true then
    match f with
    | .g (.fn f) => fin h hd s (E f xs (hideB hd (full h s)))
    | .fv f caps => fin h hd s (E f (xs ++ caps) (hideB hd (full h s)))
    | .bv f first => fin h hd s (E f (first ++ xs) (hideB hd (full h s)))
    | _ => none
  else none

/-- One thing behind another. -/
def ob {α β : Type} (x : Option α) (k : α → Option β) : Option β :=
  match x with
  | some a => k a
  | none => none

/-- One operation: its value, the state, what it wrote. -/
def exOp (E : FnS) (h : List Blk) (nb : Nat) (hd : List Nat) (s : St) (op : AOp) : Option (AV × St × List Nat) :=
  match op with
  | .call f xs => match val s f, vals s xs with
    | some f, some xs => evCall E h hd s f xs
    | _, _ => none
  | op => if op.acts = true then evI h nb s op else ob (evP h s op) fun p => some (p.1, s, [])

/-- By a guard: what comes where an operation is wanted, and where it is not; the guard's slot is laid anew as the literal that it is. -/
def gdo {α : Type} (s : St) (g : Option (Nat × Bool)) (yes no : St → Option α) : Option α :=
  match g with
  | none => yes s
  | some (g, b) => match look s.t g with
    | some (.g (.bool x)) => if x = b then yes (s.put (some g) (.g (.bool b))) else no (s.put (some g) (.g (.bool (!b))))
    | some .undef => no s
    | _ => none

def evOne (E : FnS) (h : List Blk) (nb : Nat) (hd : List Nat) (s : St) (o : AOper) : Option (St × List Nat) :=
  gdo s o.gd (fun s => ob (exOp E h nb hd s o.op) fun p => some (p.2.1.put o.d p.1, p.2.2)) (fun s => some (s.put o.d .undef, []))

def evOps (E : FnS) (h : List Blk) : List AOper → St → Option St
  | [], s => some s
  | o :: r, s => ob (evOne E h 0 [] s o) fun p => evOps E h r p.1

def St.kp (s : St) (lv : List Nat) : St := { s with t := keep s.t lv }

/-- Take an operation first: the state behind it, and the blocks that it reads. -/
def evTake (h : List Blk) (s : St) (o : AOper) : Option (St × List Nat) :=
  gdo s o.gd (fun s => ob (evP h s o.op) fun p => some (s.put o.d p.1, p.2)) (fun s => some (s.put o.d .undef, []))

def gdOff (s : St) : Option (Nat × Bool) → Bool
  | none => false
  | some (g, b) => match look s.t g with
    | some (.g (.bool x)) => x != b
    | some .undef => true
    | _ => false

/-- May a load be taken though others may still come ahead of it? Of a variable that is held. -/
def ldOk (s : St) (hd : List Nat) (o : AOper) : Bool :=
  match o.op with
  | .load _ _ p => gdOff s o.gd || (match val s p with
    | some (.ptr id _) => hd.contains id
    | _ => false)
  | .glob _ => gdOff s o.gd
  | _ => true

/-- The variables that some temporaries point to. -/
def holdIds (s : St) : List Nat → List Nat
  | [] => []
  | t :: r => match look s.t t with
    | some (.ptr id _) => id :: holdIds s r
    | _ => holdIds s r

open Classical in
noncomputable def evTree (E : FnS) (h : List Blk) (nb : Nat) (lv : List Nat) : List Nat → Tree → St → Option St
  | _, .leaf, s => some (s.kp lv)
  | _, .free t, s => evTree E h nb lv [] t s
  | hd, .hold _ t, s => evTree E h nb lv hd t s
  | hd, .take o t, s => match (if ldOk s hd o = true then evTake h s o else none) with
    | some (s', _) => evTree E h nb lv hd t s'
    | none => none
  | hd, .one o t, s => match evOne E h nb hd s o with
    | some (s', ws) => if (ws.all fun i => !hd.contains i) = true then evTree E h nb lv hd t s' else none
    | none => none
  | hd, .alt o t r, s => match evOne E h nb hd s o with
    | some (s', ws) => if (ws.all fun i => !hd.contains i) = true then
        (match evTree E h nb lv hd t s', evTree E h nb lv hd r s with
          | some x, some y => if x = y then some x else none
          | _, _ => none) else none
    | none => none

/-- What is taken first, loads as well: then the rest. -/
noncomputable def evLead (E : FnS) (h : List Blk) (nb : Nat) (lv : List Nat) (hd : List Nat) : Tree → St → Option St
  | .hold ts t, s => evLead E h nb lv (holdIds s ts ++ hd) t s
  | .take o t, s => match evTake h s o with
    | some (s', rs) => evLead E h nb lv (rs ++ hd) t s'
    | none => none
  | t, s => if (hd.all (isLiveB (full h s))) = true then evTree E h nb lv hd t s else none

def pends (s : St) (n : Nat) : St := { s with o := s.o ++ List.replicate n .pend }

abbrev Out := Option (Ex × St)

def sk (r : Out) (k : St → Out) : Out :=
  match r with
  | some (.normal, s) => k s
  | r => r

def kpN (lv : List Nat) : Out → Out
  | some (.normal, s) => some (.normal, s.kp lv)
  | r => r

def bk (lv : List Nat) (id : Nat) : Out → Out
  | some (.exit i, s) => if i = id then some (.normal, s.kp lv) else some (.exit i, s)
  | some (.normal, s) => some (.normal, s.kp lv)
  | r => r

def nrm : Option St → Out
  | some s => some (.normal, s)
  | none => none

/-- So many rounds at most. -/
def loopF (step : St → Out) (lv : List Nat) : Nat → St → Out
  | 0, _ => none
  | n + 1, s => sk (step s) fun s' => loopF step lv n (s'.kp lv)

open Classical in
noncomputable def lim {α : Type} (f : Nat → Option α) : Option α := if h : ∃ n r, f n = some r then f h.choose else none

noncomputable def loopL (step : St → Out) (lv : List Nat) (s : St) : Out := lim fun n => loopF step lv n s

/-- A call of a round, by its value. -/
def evYield (E : FnS) (h : List Blk) (s : St) (f : Opd) (xs : List Opd) : Option (AV × St) :=
  match val s f, vals s xs with
  | some (.yv id), some vs => match getB h s id with
    | some (.lp rd _ none) => match fin h [] s (E 0 (.yk rd.key :: (vs ++ [.yv id])) (full h s)) with
      | some (v, s', _) => some (v, s')
      | none => none
    | _ => none
  | _, _ => none
def evOneY (E : FnS) (h : List Blk) (s : St) (o : AOper) : Option St :=
  match o.op with
  | .ycall f xs => match o.gd with
    | none => ob (evYield E h s f xs) fun p => some (p.2.put o.d p.1)
    | some _ => none
  | _ => ob (evOne E h 0 [] s o) fun p => some p.1
def evOpsY (E : FnS) (h : List Blk) : List AOper → St → Option St
  | [], s => some s
  | o :: r, s => ob (evOneY E h s o) fun s => evOpsY E h r s

/-- A range over a function, once the function has returned. -/
def endRf (h : List Blk) (id : Nat) (lv : List Nat) (s : St) : Out :=
  match getB h s id with
  | some (.lp _ _ none) => some (.normal, (setB h s id .hid).kp lv)
  | some (.lp _ _ (some none)) => some (.ret, setB h s id .hid)
  | some (.lp _ _ (some (some i))) => some (.exit i, setB h s id .hid)
  | _ => none
def evRf (E : FnS) (h : List Blk) (lv : List Nat) (rd : RD) (lt : List Nat) (f : Opd) (s : St) : Out :=
  match val s f with
  | some (.fv f (c :: caps)) => match fin h [] (s.push (.lp rd (keep s.t lt) none)) (E f (.yv (s.next h) :: c :: caps) (full h (s.push (.lp rd (keep s.t lt) none)))) with
    | some (_, s', _) => endRf h (s.next h) lv s'
    | none => none
  | _ => none

noncomputable def evCode (E : FnS) (h : List Blk) : IC → St → Out
  | .skip, s => some (.normal, s)
  | .reg lv ops, s => kpN lv (nrm (evOps E h ops s))
  | .drw lv nb t, s => nrm (evLead E h (h.length + s.o.length) lv [] t (pends s nb))
  | .seq a b, s => sk (evCode E h a s) fun s' => evCode E h b s'
  | .cond lv c a b, s => match val s c with
    | some (.g (.bool x)) => kpN lv (if x = true then evCode E h a s else evCode E h b s)
    | _ => none
  | .block lv id c, s => bk lv id (evCode E h c s)
  | .loop lv _ c, s => loopL (fun s => evCode E h c s) lv (s.kp lv)
  | .regy lv ops, s => kpN lv (nrm (evOpsY E h ops s))
  | .rfun lv rd lt f, s => evRf E h lv rd lt f s
  | .exit id, s => some (.exit id, s)
  | .ret, s => some (.ret, s)

/-! ### Functions -/
def initT : Nat → List AV → List (Nat × AV)
  | _, [] => []
  | k, a :: r => (k, a) :: initT (k + 1) r

def rvV (h : List Blk) (s : St) : RV → Option AV
  | .tmp t => look s.t t
  | .cell t agg n => match evP h s (.load agg n (.t t)) with
    | some (v, _) => some v
    | none => none

def rvVs (h : List Blk) (s : St) : List RV → Option (List AV)
  | [] => some []
  | x :: xs => match rvV h s x, rvVs h s xs with
    | some v, some vs => some (v :: vs)
    | _, _ => none

def tupV : List AV → AV
  | [v] => v
  | vs => .tup vs

/-- A cell's value, where the blocks from number 'h.length' on go: their rows are frozen. -/
def frz0 (h : List Blk) (s : St) : AV → Option AV
  | .ms id g sz off len => if id < h.length then some (.ms id g sz off len) else
    match viewN h s sz (.ms id g sz off len) with
    | some els => some (.g (if g = 1 then .nsl else .sl sz els))
    | none => none
  | v => if v.lt1 h.length = true then some v else none
def frz1 (h : List Blk) (s : St) : List AV → Option (List AV)
  | [] => some []
  | v :: r => match frz0 h s v, frz1 h s r with
    | some v, some r => some (v :: r)
    | _, _ => none
def frz2 (h : List Blk) (s : St) : AV → Option AV
  | .agg cs => match frz1 h s cs with
    | some cs => some (.agg cs)
    | none => none
  | v => frz0 h s v
def frz3 (h : List Blk) (s : St) : List AV → Option (List AV)
  | [] => some []
  | v :: r => match frz2 h s v, frz3 h s r with
    | some v, some r => some (v :: r)
    | _, _ => none

def Blk.lt1 (n : Nat) : Blk → Bool
  | .cells cs => cs.all (AV.lt1 n)
  | .bld _ cs => cs.all (AV.lt1 n)
  | .lp _ t _ => t.all fun p => p.2.lt1 n
  | _ => true

def finish (h : List Blk) (F : IFunc) (s : St) : Option Res :=
  match rvVs h s F.rs with
  | some vs => if F.esc = true then some ⟨tupV vs, s.m, s.o⟩ else
    match frz3 h s vs with
    | some vs => if (s.m.all fun p => p.2.lt1 h.length) = true then some ⟨tupV vs, s.m, []⟩ else none
    | none => none
  | none => none

noncomputable def evBody (E : FnS) (F : IFunc) (args : List AV) (H : List Blk) : Option Res :=
  if args.length ≤ F.nt then
    match evCode E H F.body ⟨initT 0 args, [], []⟩ with
    | some (.ret, s) => finish H F s
    | some (.normal, s) => finish H F s
    | _ => none
  else none

/-! ### Rounds -/
structure IRound where
  rd : RD
  ps : List Nat
  as : IC
  body : IC
  deriving Inhabited

def putPs : List Nat → List AV → List (Nat × AV) → List (Nat × AV)
  | p :: ps, a :: as, t => putPs ps as ((p, a) :: t)
  | _, _, t => t
def jmpO : Ex → Option (Option Nat)
  | .normal => none
  | .ret => some none
  | .exit i => some (some i)
/-- A round's end: whether the next one is to come, where it jumps. -/
def endRd (id : Nat) (rd : RD) (t : List (Nat × AV)) : Out → Option Res
  | some (e, s) => if (s.m.all fun p => p.1 != id) = true then some ⟨.g (.bool (jmpO e).isNone), (id, .lp rd t (jmpO e)) :: s.m, s.o⟩ else none
  | none => none
def bodyRd (k : List (Nat × AV) → Option Res) : Out → Option Res
  | some (.normal, ⟨t1, [], []⟩) => k t1
  | _ => none
open Classical in
noncomputable def evRound (E : FnS) (R : IRound) (vs : List AV) (id : Nat) (H : List Blk) : Option Res :=
  match H[id]? with
  | some (.lp rd t none) => if rd = R.rd ∧ vs.length = R.ps.length then
      bodyRd (fun t1 => endRd id rd t (evCode E (hideB [id] H) R.body ⟨t1, [], []⟩)) (evCode E (hideB [id] H) R.as ⟨putPs R.ps vs t, [], []⟩)
    else none
  | _ => none
noncomputable def evRoundA (E : FnS) (R : Option IRound) (as : List AV) (H : List Blk) : Option Res :=
  match R, as.getLast? with
  | some R, some (.yv id) => evRound E R as.dropLast id H
  | _, _ => none

/-- A table of functions, what those of no code answer, and the rounds. -/
structure Tab where
  T : FuncId → Option IFunc
  X : FnS
  R : Nat → Option IRound

noncomputable def evX (T : Tab) (E : FnS) (f : FuncId) (args : List AV) (H : List Blk) : Option Res :=
  match args with
  | .yk key :: as => evRoundA E (T.R key) as H
  | _ => T.X f args H

noncomputable def evF (T : Tab) : Nat → FnS
  | 0 => fun _ _ _ => none
  | n + 1 => fun f args H => match T.T f with
    | some F => evBody (evF T n) F args H
    | none => evX T (evF T n) f args H

noncomputable def EvF (T : Tab) : FnS := fun f args H => lim fun n => evF T n f args H

end Go.AM
end
